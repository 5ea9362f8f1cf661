/-
  Numbers, handed an address: each field's own place.
-/
import Derived.Test.YtlakpbfmcnlnbaaDoorT
import Derived.Test.YtlakpbfmcnlnbaaDoorLA
import Derived.WalkKit
import Derived.BigCall
import Derived.BigQuiet
import Derived.Deep.QuietTactic
import Derived.Deep.RegionHeld3
import Derived.Deep.DrawnRows
import Derived.Lib.OthersKept
import Derived.ArgAppend
import Derived.Test.YtlakpbfmcnlnbaaDoorLC
namespace Go.Proofs.YtlakpbfmcnlnbaaDoor
open Go VE

abbrev TNumA : Ty := (.prod .str (.prod .addr (.prod (.int .i64) (.int .i64))))
def tysA : List (Nat × Option Ty) := [(3, some (.int .i64)), (4, some .bool), (9, some .str), (23, none), (47, none), (63, some (.sl (.prod .str (.prod .addr (.prod (.int .i64) (.int .i64)))))), (66, some .addr), (68, some (.prod .str (.prod .addr (.prod (.int .i64) (.int .i64)))))]
def tabA : List (Nat × TI) := [(3, ⟨1, 8, (.int .i64), [(.v (.int .i64 (0 : Int)))], some (.int .i64)⟩),
  (4, ⟨1, 1, .bool, [(.v (.bool false))], some .bool⟩),
  (9, ⟨1, 16, .str, [(.v (.string (⟨#[]⟩ : ByteArray)))], some .str⟩),
  (23, ⟨23, 192, (.st [(0, 3), (1, 3), (2, 3), (3, 3), (4, 3), (5, 3), (6, 3), (7, 3), (8, 3), (9, 3), (10, 3), (11, 3), (12, 3), (13, 3), (14, 3), (15, 4), (16, 3), (17, 3), (18, 3), (19, 3), (20, 3), (21, 9), (22, 4)]), [(.v (.int .i64 (0 : Int))), (.v (.int .i64 (0 : Int))), (.v (.int .i64 (0 : Int))), (.v (.int .i64 (0 : Int))), (.v (.int .i64 (0 : Int))), (.v (.int .i64 (0 : Int))), (.v (.int .i64 (0 : Int))), (.v (.int .i64 (0 : Int))), (.v (.int .i64 (0 : Int))), (.v (.int .i64 (0 : Int))), (.v (.int .i64 (0 : Int))), (.v (.int .i64 (0 : Int))), (.v (.int .i64 (0 : Int))), (.v (.int .i64 (0 : Int))), (.v (.int .i64 (0 : Int))), (.v (.bool false)), (.v (.int .i64 (0 : Int))), (.v (.int .i64 (0 : Int))), (.v (.int .i64 (0 : Int))), (.v (.int .i64 (0 : Int))), (.v (.int .i64 (0 : Int))), (.v (.string (⟨#[]⟩ : ByteArray))), (.v (.bool false))], none⟩),
  (47, ⟨1, 8, (.ptr 23), [(.v (.pointer none))], none⟩),
  (63, ⟨1, 24, (.sl 68), [(.v (.slice none 0 0))], some (.sl (.prod .str (.prod .addr (.prod (.int .i64) (.int .i64)))))⟩),
  (66, ⟨1, 8, (.ptr 3), [(.v (.pointer none))], some .addr⟩),
  (68, ⟨4, 40, (.st [(0, 9), (1, 66), (2, 3), (3, 3)]), [(.v (.string (⟨#[]⟩ : ByteArray))), (.v (.pointer none)), (.v (.int .i64 (0 : Int))), (.v (.int .i64 (0 : Int)))], some (.prod .str (.prod .addr (.prod (.int .i64) (.int .i64))))⟩)]
theorem tabA_ok : tabOf Tryd.prog tysA = some tabA := by kernel_rfl
def firstA (b o : Nat) : List (El TNumA) := [(⟨#[105, 110, 116, 101, 114, 118, 97, 108]⟩, (b, o + 0), 10, 10000), (⟨#[116, 105, 109, 101, 111, 117, 116]⟩, (b, o + 1), 1, 10000), (⟨#[106, 105, 116, 116, 101, 114]⟩, (b, o + 2), 0, 1000), (⟨#[114, 105, 115, 101]⟩, (b, o + 3), 1, 10), (⟨#[102, 97, 108, 108]⟩, (b, o + 4), 1, 10), (⟨#[112, 97, 110, 105, 99]⟩, (b, o + 5), 0, 100), (⟨#[111, 118, 101, 114]⟩, (b, o + 6), 100, 1000), (⟨#[101, 114, 114, 111, 114, 115]⟩, (b, o + 7), 0, 100), (⟨#[115, 119, 101, 101, 112]⟩, (b, o + 8), 10, 10000), (⟨#[104, 111, 115, 116, 115]⟩, (b, o + 9), 1, 64), (⟨#[114, 101, 113, 117, 101, 115, 116, 115]⟩, (b, o + 10), 1, 1000), (⟨#[102, 97, 99, 116, 111, 114]⟩, (b, o + 11), 0, 10000), (⟨#[102, 97, 105, 108, 115]⟩, (b, o + 12), 0, 100), (⟨#[98, 97, 115, 101]⟩, (b, o + 13), 1, 10000), (⟨#[101, 106, 101, 99, 116]⟩, (b, o + 14), 0, 100)]
def secondA (b o : Nat) : List (El TNumA) := [(⟨#[115, 108, 111, 119]⟩, (b, o + 16), 0, 10000), (⟨#[100, 114, 97, 105, 110]⟩, (b, o + 17), 1, 10000), (⟨#[104, 111, 115, 116, 108, 105, 109, 105, 116]⟩, (b, o + 18), 1, 1000), (⟨#[112, 111, 111, 108, 108, 105, 109, 105, 116]⟩, (b, o + 19), 1, 10000)]
noncomputable def numA.cfg : Cfg := ⟨lkp tabA, fun _ => none, fun _ => none, {}⟩
theorem numA.run_eq (b o : Nat) : run numA.cfg Tryd.f29.ntmps Tryd.f29.results.toList 1 [.code (bodyOf Tryd.f29)] (enter [.c (.v (.pointer (some ⟨b, o, none⟩)))]) = some (.tup [.c (.sl TNumA (firstA b o)), .c (.sl TNumA (secondA b o))], []) := by kernel_rfl
theorem numA_returns (b o : Nat) : VE.Returns Tryd.prog 29 [.c (.v (.pointer (some ⟨b, o, none⟩)))] (.tup [.c (.sl TNumA (firstA b o)), .c (.sl TNumA (secondA b o))]) :=
  returns_of_run (cfg := numA.cfg) ⟨tyOK_of_tab tabA_ok, mixed, fun _ _ h => (by cases h), fun _ _ h => (by cases h), fun _ h => (by cases h)⟩ rfl Tryd.func29 (body_some (by kernel_rfl)) (Nat.le_of_ble_eq_true (by kernel_rfl)) (numA.run_eq b o)

noncomputable def numA.cfgO : Cfg := ⟨lkp tabA, fun _ => none, fun _ => none, ⟨fun _ => none, [], some ([.arr 68 TNumA, .arr 68 TNumA], []), false, []⟩⟩
theorem numA.runO_eq (b o : Nat) : run numA.cfgO Tryd.f29.ntmps Tryd.f29.results.toList 1 [.code (bodyOf Tryd.f29)] (enterO [.c (.v (.pointer (some ⟨b, o, none⟩)))] []) = some (.tup [.c (.sref 115326), .c (.sref 115454)], [(115326, .arr 68 TNumA (firstA b o) false), (115454, .arr 68 TNumA (secondA b o) false)]) := by kernel_rfl
theorem numA_returnsO (b o : Nat) : VE.ReturnsO Tryd.prog 29 [.c (.v (.pointer (some ⟨b, o, none⟩)))] [] (.tup [.c (.sref 115326), .c (.sref 115454)]) [(115326, .arr 68 TNumA (firstA b o) false), (115454, .arr 68 TNumA (secondA b o) false)] :=
  returnsO_of_run (cfg := numA.cfgO) ⟨tyOK_of_tab tabA_ok, mixed, fun _ _ h => (by cases h), fun _ _ h => (by cases h), fun _ h => (by cases h)⟩ rfl Tryd.func29 (body_some (by kernel_rfl)) (Nat.le_of_ble_eq_true (by kernel_rfl)) (fun _ _ _ h => by cases h) (numA.runO_eq b o)

end Go.Proofs.YtlakpbfmcnlnbaaDoor
namespace Go.Proofs.YtlakpbfmcnlnbaaDoor
open Go VE Go.RowKit

/-- A block that may be written, and all else as it was. -/
structure OneBlk (b : Nat) (vs : Array Value) (e : TypeId) (w0 w : World) : Prop where
  blk : w.heap[b]? = some (.cells vs e (0, 0))
  fr : Fr (fun k => k = b) w0.heap.size w0 w

theorem cell_blk {w : World} {b j : Nat} {vs : Array Value} {e : TypeId} (h : w.heap[b]? = some (.cells vs e (0, 0))) (hj : j < vs.size) : w.cell? ⟨b, j, none⟩ = some (vs.getD j undef) ∧ w.frozen? ⟨b, j, none⟩ = false := by
  refine ⟨?_, Lib.frozen_of_heap h j⟩
  rw [Lib.cell_of_heap h]
  simp [Array.getD, hj]
theorem OneBlk.set {b j : Nat} {vs : Array Value} {e : TypeId} {w0 w : World} (h : OneBlk b vs e w0 w) (v : Value) : OneBlk b (vs.setIfInBounds j v) e w0 (w.setCell ⟨b, j, none⟩ v) := by
  have hlt : b < w.heap.size := lt_of_some h.blk
  rw [setCell_putBlk h.blk]
  exact ⟨putBlk_same hlt _, h.fr.trans (Fr.putBlk (M := fun k => k = b) (.inr rfl) _)⟩
theorem OneBlk.below {b : Nat} {vs : Array Value} {e : TypeId} {w0 w w' : World} (h : OneBlk b vs e w0 w) (hb : Below w.heap.size w w') : OneBlk b vs e w0 w' := by
  have hlt : b < w.heap.size := lt_of_some h.blk
  refine ⟨(hb.block b hlt).trans h.blk, h.fr.trans ⟨hb.os, hb.tape, hb.output, hb.size, fun k hk _ => hb.block k (Nat.lt_of_lt_of_le hk h.fr.size)⟩⟩
theorem cell_fresh (w : World) (cs : Array Value) (t : TypeId) (j : Nat) : (w.alloc (.cells cs t (0, 0))).cell? ⟨w.heap.size, j, none⟩ = cs[j]? := by
  unfold World.cell? World.alloc
  simp
theorem OneBlk.refl {b : Nat} {vs : Array Value} {e : TypeId} {w : World} (h : w.heap[b]? = some (.cells vs e (0, 0))) : OneBlk b vs e w w := ⟨h, Fr.refl _ _ _⟩

theorem SpecOK.returns {P : Program} {g : FuncId} {sp : ISpec} (h : SpecOK P g sp) {args : List IV} {r : IV} (hsp : sp args (fun r b => some (r, b)) = some (r, [])) : VE.Returns P g args r := by
  obtain ⟨res, hk, R⟩ := h.ret args _ _ hsp
  rw [hk] at hsp
  injection hsp with hsp
  injection hsp with hsp
  exact hsp ▸ R

/-- What stands in the library's tables, in a world that has grown. -/
theorem laid_below {ok : Nat → Nat → Prop} {w w' : World} (hok : ∀ b o, ok b o → b < w.heap.size) (h : Laid ok w) (hb : Below w.heap.size w w') : Laid ok w' ∧ ∀ b o, ok b o → b < w'.heap.size :=
  ⟨fun p hp => ⟨(h p hp).1, (hb.cell (p := ⟨p.1, p.2.1, none⟩) (hok _ _ (h p hp).1)).trans (h p hp).2⟩, fun b o h => Nat.lt_of_lt_of_le (hok b o h) hb.size⟩

theorem laid_set {ok : Nat → Nat → Prop} {w : World} {b j : Nat} {v : Value} (hne : ∀ o, ¬ ok b o) (h : Laid ok w) : Laid ok (w.setCell ⟨b, j, none⟩ v) := fun p hp => by
  obtain ⟨h1, h2⟩ := h p hp
  refine ⟨h1, ?_⟩
  rw [World.cell?_setCell_far _ _ _ _ (fun e : b = p.1 => hne p.2.1 (e ▸ h1))]
  exact h2

theorem bool_calls {g : FuncId} {v : ByteArray} {r : Bool} (h : VE.Returns Tryd.prog g [.c (.v (.string v))] (vb r)) {ok : Nat → Nat → Prop} {w : World} (hok : ∀ b o, ok b o → b < w.heap.size) (hl : Laid ok w) :
    Calls Tryd.prog g #[.string v] w fun e w' => e = .returned (.bool r) ∧ Below w.heap.size w w' := by
  refine (h w #[.string v] ok hok hl rfl fun j c hc => ?_).mono fun e w' ⟨u, he, hb, hr⟩ => ?_
  · cases j with
    | zero => simp at hc; subst hc; exact .c _ _ (.v _ rfl)
    | succ j => simp at hc
  · obtain ⟨rfl, _⟩ := iv_v hr
    exact ⟨he, hb⟩

set_option maxHeartbeats 4000000 in
set_option maxRecDepth 1000000 in
theorem set_one (b : Nat) (v : ByteArray) (w : World) (vs : Array Value) (e0 : TypeId) (hB : w.heap[b]? = some (.cells vs e0 (0, 0))) (hs : vs.size = 23) :
    Calls Tryd.prog 22 #[.pointer (some ⟨b, 0, none⟩), .string ⟨#[111, 110, 101]⟩, .string v] w fun e w' => e = .returned (.bool (yesB v || noB v)) ∧ OneBlk b (vs.setIfInBounds 15 (.bool (yesB v))) e0 w w' := by
  obtain ⟨h1, h2⟩ := cell_blk (j := 15) hB (by omega)
  have hn : Tryd.f22.ntmps = 125 := rfl
  have key := (OneBlk.refl hB).set (j := 15) (.bool (yesB v))
  unfold yesB noB isB at *
  cases hy : v.toList == [121, 101, 115]
  · rw [hy] at key
    cases hz : v.toList == [110, 111]
    all_goals
      go_enter Tryd.func22, hn
      go_wp2
      go_ret
      exact ⟨rfl, key⟩
  · rw [hy] at key
    go_enter Tryd.func22, hn
    go_wp2
    go_ret
    exact ⟨rfl, key⟩

set_option maxHeartbeats 4000000 in
set_option maxRecDepth 1000000 in
theorem set_fallback (b : Nat) (v : ByteArray) (w : World) (vs : Array Value) (e0 : TypeId) (hB : w.heap[b]? = some (.cells vs e0 (0, 0))) (hs : vs.size = 23) :
    Calls Tryd.prog 22 #[.pointer (some ⟨b, 0, none⟩), .string ⟨#[102, 97, 108, 108, 98, 97, 99, 107]⟩, .string v] w fun e w' => e = .returned (.bool (yesB v || noB v)) ∧ OneBlk b (vs.setIfInBounds 22 (.bool (yesB v))) e0 w w' := by
  obtain ⟨h1, h2⟩ := cell_blk (j := 22) hB (by omega)
  have hn : Tryd.f22.ntmps = 125 := rfl
  have key := (OneBlk.refl hB).set (j := 22) (.bool (yesB v))
  unfold yesB noB isB at *
  cases hy : v.toList == [121, 101, 115]
  · rw [hy] at key
    cases hz : v.toList == [110, 111]
    all_goals
      go_enter Tryd.func22, hn
      go_wp2
      go_ret
      exact ⟨rfl, key⟩
  · rw [hy] at key
    go_enter Tryd.func22, hn
    go_wp2
    go_ret
    exact ⟨rfl, key⟩

set_option maxHeartbeats 4000000 in
set_option maxRecDepth 1000000 in
theorem set_zone (b : Nat) (v : ByteArray) (hv : VE.Returns Tryd.prog 35 [.c (.v (.string v))] (vb (nameB v))) (w : World) (vs : Array Value) (e0 : TypeId) (hB : w.heap[b]? = some (.cells vs e0 (0, 0))) (hs : vs.size = 23)
    (ok : Nat → Nat → Prop) (hok : ∀ c o, ok c o → c < w.heap.size) (hne : ∀ o, ¬ ok b o) (hl : Laid ok w) :
    Calls Tryd.prog 22 #[.pointer (some ⟨b, 0, none⟩), .string ⟨#[122, 111, 110, 101]⟩, .string v] w fun e w' => e = .returned (.bool (isB [45] v || nameB v)) ∧
      OneBlk b (vs.setIfInBounds 21 (.string (if isB [45] v then ⟨#[]⟩ else v))) e0 w w' := by
  obtain ⟨h1, h2⟩ := cell_blk (j := 21) hB (by omega)
  have hn : Tryd.f22.ntmps = 125 := rfl
  have key := (OneBlk.refl hB).set (j := 21) (.string v)
  have hl2 := laid_set (j := 21) (v := .string v) hne hl
  have hsz : (w.setCell ⟨b, 21, none⟩ (.string v)).heap.size = w.heap.size := by simp [World.setCell]
  unfold isB
  cases hy : v.toList == [45]
  · go_enter Tryd.func22, hn
    go_wp2_with (go_at_call 35; refine (bool_calls hv (ok := ok) (fun c o h => (by rw [hsz]; exact hok c o h)) hl2).mono ?_)
    rintro e w1 ⟨rfl, hb1⟩
    go_wp2
    go_ret
    exact ⟨by simp, by simpa using key.below hb1⟩
  · have key2 := key.set (j := 21) (.string ⟨#[]⟩)
    go_enter Tryd.func22, hn
    go_wp2
    go_ret
    exact ⟨by simp, by simpa using key2⟩

/-- The policy's number, when k names have been looked at. -/
def polK (v : ByteArray) (k : Nat) : Int :=
  match k with
  | 0 => 0
  | 1 => if ([114, 111, 117, 110, 100] == v.toList) = true then 1 else 0
  | 2 => if ([108, 101, 97, 115, 116] == v.toList) = true then 2 else if ([114, 111, 117, 110, 100] == v.toList) = true then 1 else 0
  | _ => if ([114, 105, 110, 103] == v.toList) = true then 3 else if ([108, 101, 97, 115, 116] == v.toList) = true then 2 else if ([114, 111, 117, 110, 100] == v.toList) = true then 1 else 0

set_option maxHeartbeats 4000000 in
set_option maxRecDepth 1000000 in
theorem set_policy (b : Nat) (v : ByteArray) (w : World) (vs : Array Value) (e0 : TypeId) (hB : w.heap[b]? = some (.cells vs e0 (0, 0))) (hs : vs.size = 23) :
    Calls Tryd.prog 22 #[.pointer (some ⟨b, 0, none⟩), .string ⟨#[112, 111, 108, 105, 99, 121]⟩, .string v] w fun e w' => e = .returned (.bool (decide (polK v 3 > 0))) ∧
      OneBlk b (vs.setIfInBounds 20 (.int .i64 (polK v 3))) e0 w w' := by
  obtain ⟨h1, h2⟩ := cell_blk (j := 20) hB (by omega)
  have hn : Tryd.f22.ntmps = 125 := rfl
  have key := (OneBlk.refl hB).set (j := 20) (.int .i64 0)
  have hlt : b < w.heap.size := lt_of_some hB
  have hsz : (w.setCell ⟨b, 20, none⟩ (.int .i64 0)).heap.size = w.heap.size := by simp [World.setCell]
  go_enter Tryd.func22, hn
  go_wp2
  go_loopw [44] (fun i wr => ∃ k : Nat, k ≤ 3 ∧ i = .int .i64 (k : Int) ∧ OneBlk b (vs.setIfInBounds 20 (.int .i64 (polK v k))) e0 w wr ∧
      wr.cell? ⟨w.heap.size, 0, none⟩ = some (.string ⟨#[114, 111, 117, 110, 100]⟩) ∧ wr.cell? ⟨w.heap.size, 1, none⟩ = some (.string ⟨#[108, 101, 97, 115, 116]⟩) ∧ wr.cell? ⟨w.heap.size, 2, none⟩ = some (.string ⟨#[114, 105, 110, 103]⟩))
    (fun i _ => 3 - (intOf i).toNat)
  case atStart => 
    refine ⟨0, by omega, rfl, key.below ((Below.refl _ _).alloc (Nat.le_refl _) _), ?_, ?_, ?_⟩ <;> (rw [← hsz]; exact cell_fresh _ _ _ _)
  case round =>
    obtain ⟨k, hk, rfl, hI, g0, g1, g2⟩ := hrel
    obtain ⟨c1, c2⟩ := cell_blk (j := 20) hI.blk (by rw [Array.size_setIfInBounds]; omega)
    have hne : b ≠ w.heap.size := by omega
    rcases (by omega : k = 0 ∨ k = 1 ∨ k = 2 ∨ k = 3) with rfl | rfl | rfl | rfl
    · cases hp : [114, 111, 117, 110, 100] == v.toList
      · have e : polK v 1 = polK v 0 := if_neg (by rw [hp]; exact Bool.false_ne_true)
        go_wp2
        go_roundw
        case rel => exact ⟨1, by omega, rfl, e ▸ hI, g0, g1, g2⟩
        case measure => simp [intOf]
      · have e : polK v 1 = 1 := if_pos hp
        have key2 := hI.set (j := 20) (.int .i64 1)
        rw [Array.setIfInBounds_setIfInBounds] at key2
        go_wp2
        go_roundw
        case rel =>
          refine ⟨1, by omega, rfl, e ▸ key2, ?_, ?_, ?_⟩
          · rw [World.cell?_setCell_far _ _ _ _ hne]; exact g0
          · rw [World.cell?_setCell_far _ _ _ _ hne]; exact g1
          · rw [World.cell?_setCell_far _ _ _ _ hne]; exact g2
        case measure => simp [intOf]
    · cases hp : [108, 101, 97, 115, 116] == v.toList
      · have e : polK v 2 = polK v 1 := if_neg (by rw [hp]; exact Bool.false_ne_true)
        go_wp2
        go_roundw
        case rel => exact ⟨2, by omega, rfl, e ▸ hI, g0, g1, g2⟩
        case measure => simp [intOf]
      · have e : polK v 2 = 2 := if_pos hp
        have key2 := hI.set (j := 20) (.int .i64 2)
        rw [Array.setIfInBounds_setIfInBounds] at key2
        go_wp2
        go_roundw
        case rel =>
          refine ⟨2, by omega, rfl, e ▸ key2, ?_, ?_, ?_⟩
          · rw [World.cell?_setCell_far _ _ _ _ hne]; exact g0
          · rw [World.cell?_setCell_far _ _ _ _ hne]; exact g1
          · rw [World.cell?_setCell_far _ _ _ _ hne]; exact g2
        case measure => simp [intOf]
    · cases hp : [114, 105, 110, 103] == v.toList
      · have e : polK v 3 = polK v 2 := if_neg (by rw [hp]; exact Bool.false_ne_true)
        go_wp2
        go_roundw
        case rel => exact ⟨3, by omega, rfl, e ▸ hI, g0, g1, g2⟩
        case measure => simp [intOf]
      · have e : polK v 3 = 3 := if_pos hp
        have key2 := hI.set (j := 20) (.int .i64 3)
        rw [Array.setIfInBounds_setIfInBounds] at key2
        go_wp2
        go_roundw
        case rel =>
          refine ⟨3, by omega, rfl, e ▸ key2, ?_, ?_, ?_⟩
          · rw [World.cell?_setCell_far _ _ _ _ hne]; exact g0
          · rw [World.cell?_setCell_far _ _ _ _ hne]; exact g1
          · rw [World.cell?_setCell_far _ _ _ _ hne]; exact g2
        case measure => simp [intOf]
    · go_wp2
      go_ret
      exact ⟨rfl, hI⟩

end Go.Proofs.YtlakpbfmcnlnbaaDoor
namespace Go.Proofs.YtlakpbfmcnlnbaaDoor
open Go VE Go.RowKit

def rowV (x : El TNumA) : List Value := [.string x.1, .pointer (some ⟨x.2.1.1, x.2.1.2, none⟩), .int .i64 x.2.2.1, .int .i64 x.2.2.2]
def rowsV (xs : List (El TNumA)) : List Value := (xs.map rowV).flatten

/-- A row of numbers of one's own, as it lies. -/
structure NumsIn (g cap : Nat) (xs : List (El TNumA)) (w : World) : Prop where
  lt : g < w.heap.size
  cells : ∀ j u, (rowsV xs)[j]? = some u → w.cell? ⟨g, j, none⟩ = some u
  spare : ∀ j, j < cap * 4 → (w.cell? ⟨g, j, none⟩).isSome = true ∧ w.frozen? ⟨g, j, none⟩ = false
  le : xs.length ≤ cap

theorem rowsV_length : ∀ xs : List (El TNumA), (rowsV xs).length = xs.length * 4
  | [] => rfl
  | x :: xs => by
    have ih := rowsV_length xs
    show (rowV x ++ rowsV xs).length = _
    rw [List.length_append, ih, List.length_cons]
    show 4 + _ = _
    omega
theorem rowsV_get : ∀ (xs : List (El TNumA)) (i : Nat) (x : El TNumA) (j : Nat), xs[i]? = some x → j < 4 → (rowsV xs)[i * 4 + j]? = (rowV x)[j]?
  | [], i, x, j, h, _ => by simp at h
  | y :: xs, 0, x, j, h, hj => by
    simp at h; subst h
    show (rowV y ++ rowsV xs)[0 * 4 + j]? = _
    rw [Nat.zero_mul, Nat.zero_add, List.getElem?_append_left (by exact hj)]
  | y :: xs, i + 1, x, j, h, hj => by
    have h : xs[i]? = some x := by simpa using h
    have ih := rowsV_get xs i x j h hj
    show (rowV y ++ rowsV xs)[(i + 1) * 4 + j]? = _
    have e : (rowV y).length = 4 := rfl
    rw [List.getElem?_append_right (by omega), e, show (i + 1) * 4 + j - 4 = i * 4 + j by omega]
    exact ih
theorem rowsV_at {xs : List (El TNumA)} {j : Nat} {u : Value} (h : (rowsV xs)[j]? = some u) : ∃ x, xs[j / 4]? = some x ∧ (rowV x)[j % 4]? = some u := by
  have h1 : j < (rowsV xs).length := (List.getElem?_eq_some_iff.1 h).1
  rw [rowsV_length] at h1
  have h2 : j / 4 < xs.length := by omega
  refine ⟨xs[j / 4], List.getElem?_eq_getElem h2, ?_⟩
  rw [← rowsV_get xs (j / 4) xs[j / 4] (j % 4) (List.getElem?_eq_getElem h2) (by omega), show j / 4 * 4 + j % 4 = j by omega]
  exact h

theorem nums_in {x' : Xs} {w' : World} {q : Gh} {ty : Nat} {xs : List (El TNumA)} (hne : xs ≠ []) (h : BRel x' w' q (.arr ty TNumA xs false)) :
    ∃ g, q.blk = some g ∧ q.len = xs.length ∧ NumsIn g q.cap xs w' := by
  cases h with
  | none => exact absurd rfl hne
  | arr _ _ _ _ g vs e hb hw hl hc hs h hfr =>
    refine ⟨g, hb, hl, lt_of_some hw, fun j u hu => ?_, fun j hj => ?_, hc⟩
    · obtain ⟨x, h1, h2⟩ := rowsV_at hu
      have hlt : j < vs.size := by
        have := (List.getElem?_eq_some_iff.1 h1).1
        rw [hs]
        show j < q.cap * 4
        omega
      rw [(cell_blk hw hlt).1]
      have key : ∀ m c, (enc TNumA x)[m]? = some c → VRel x' w' (vs.getD (j / 4 * 4 + m) undef) c := fun m c hc => h (j / 4) x h1 m c hc
      have e : vs.getD j undef = vs.getD (j / 4 * 4 + j % 4) undef := by rw [show j / 4 * 4 + j % 4 = j by omega]
      rw [e]
      have hm : j % 4 < 4 := Nat.mod_lt _ (by omega)
      generalize j % 4 = m at h2 hm
      rcases (by omega : m = 0 ∨ m = 1 ∨ m = 2 ∨ m = 3) with rfl | rfl | rfl | rfl
      · have := key 0 _ rfl
        generalize vs.getD (j / 4 * 4 + 0) undef = z at this
        cases this
        exact h2
      · have := key 1 _ rfl
        generalize vs.getD (j / 4 * 4 + 1) undef = z at this
        cases this
        exact h2
      · have := key 2 _ rfl
        generalize vs.getD (j / 4 * 4 + 2) undef = z at this
        cases this
        exact h2
      · have := key 3 _ rfl
        generalize vs.getD (j / 4 * 4 + 3) undef = z at this
        cases this
        exact h2
    · have hlt : j < vs.size := by rw [hs]; exact hj
      obtain ⟨c1, c2⟩ := cell_blk hw hlt
      exact ⟨by rw [c1]; rfl, c2⟩

theorem num_calls (b o : Nat) {ok : Nat → Nat → Prop} {w : World} (hok : ∀ c o, ok c o → c < w.heap.size) (hl : Laid ok w) :
    Calls Tryd.prog 29 #[.pointer (some ⟨b, o, none⟩)] w fun e w' => ∃ g1 c1 g2 c2, e = .returned (.tuple #[.slice (some ⟨g1, 0, none⟩) 15 c1, .slice (some ⟨g2, 0, none⟩) 4 c2]) ∧
      NumsIn g1 c1 (firstA b o) w' ∧ NumsIn g2 c2 (secondA b o) w' ∧ w.heap.size ≤ g1 ∧ w.heap.size ≤ g2 ∧ Below w.heap.size w w' := by
  have hrel : HRel (fun _ => False) w.heap.size ok (outside ok w) (ofB []) (ofU []) w :=
    ⟨fun id b hb => (by cases hb), fun i j bi bj qi qj k hi => (by cases hi), fun i bi qi k hi => (by cases hi), fun id q hq => (by cases hq), hok, fun _ _ h => h, Nat.le_refl _, fun _ _ h => .inl h, hl⟩
  refine (numA_returnsO b o w #[.pointer (some ⟨b, o, none⟩)] (fun _ => False) ok (outside ok w) hrel rfl fun j c hc => ?_).mono fun e w' ⟨v, x', u', he, hfr, hr, hv, _⟩ => ?_
  · cases j with
    | zero => simp at hc; subst hc; exact .c _ _ (.v _ rfl)
    | succ j => simp at hc
  · cases hv with
    | tup us _ hs hv =>
      obtain ⟨q1, hq1, r1⟩ := hr.box 115326 _ rfl
      obtain ⟨q2, hq2, r2⟩ := hr.box 115454 _ rfl
      obtain ⟨g1, hg1, l1, n1⟩ := nums_in (by unfold firstA; exact List.cons_ne_nil _ _) r1
      obtain ⟨g2, hg2, l2, n2⟩ := nums_in (by unfold secondA; exact List.cons_ne_nil _ _) r2
      have o1 := (hr.own 115326 _ q1 g1 rfl rfl hq1 hg1).1.resolve_right (fun h => h)
      have o2 := (hr.own 115454 _ q2 g2 rfl rfl hq2 hg2).1.resolve_right (fun h => h)
      have v1 := iv_c (hv 0 _ rfl)
      have v2 := iv_c (hv 1 _ rfl)
      have hus : us = #[us.getD 0 undef, us.getD 1 undef] := by
        obtain ⟨L⟩ := us
        match L, hs with
        | [a, b], _ => rfl
      generalize us.getD 0 undef = z1 at v1 hus
      generalize us.getD 1 undef = z2 at v2 hus
      subst hus
      cases v1 with
      | sref _ p1 e1 =>
        rw [hq1] at e1; cases e1
        cases v2 with
        | sref _ p2 e2 =>
          rw [hq2] at e2; cases e2
          refine ⟨g1, q1.cap, g2, q2.cap, ?_, n1, n2, o1, o2, hfr.os, hfr.tape, hfr.output, hfr.size, fun k hk => hfr.block k hk (fun h => h)⟩
          rw [he, hg1, hg2, l1, l2]
          rfl

/-- Both rows, one behind the other. -/
structure Aft (b o N0 : Nat) (w1 : World) (v' : Value) (w' : World) : Prop where
  at_ : ∃ g cap, v' = .slice (some ⟨g, 0, none⟩) 19 cap ∧ N0 ≤ g ∧ g < w'.heap.size ∧ 19 ≤ cap ∧ ∀ j u, (rowsV (firstA b o ++ secondA b o))[j]? = some u → w'.cell? ⟨g, j, none⟩ = some u
  below : Below N0 w1 w'

theorem rowsV_append (xs ys : List (El TNumA)) : rowsV (xs ++ ys) = rowsV xs ++ rowsV ys := by simp [rowsV]
theorem rowsV_one (xs : List (El TNumA)) : ∀ u ∈ rowsV xs, u.oneCell' = true := by
  intro u hu
  obtain ⟨l, hl, hu⟩ := List.mem_flatten.1 hu
  obtain ⟨x, _, rfl⟩ := List.mem_map.1 hl
  simp [rowV] at hu
  rcases hu with rfl | rfl | rfl | rfl <;> rfl

theorem setCells_size (g : Nat) : ∀ (vs : List Value) (o : Nat) (w : World), (w.setCells g o vs).heap.size = w.heap.size
  | [], _, _ => rfl
  | v :: r, o, w => by
    rw [World.setCells, setCells_size g r]
    simp [World.setCell]
theorem setCells_below {N0 g : Nat} (h : N0 ≤ g) : ∀ (vs : List Value) (o : Nat) (w : World), Below N0 w (w.setCells g o vs)
  | [], _, _ => Below.refl _ _
  | v :: r, o, w => ((Below.refl N0 w).setCell (p := ⟨g, o, none⟩) h v).trans (setCells_below h r (o + 1) _)

theorem wpList_nums {ops : Array Oper} {rest : List Oper} {o : Oper} {a : Act} {Q : Exit → Act → World → Prop} (w : World) (hg : o.guard = none) (s x : Operand) (hop : o.op = Op.call { callee := Callee.builtin Builtin.append, args := #[s, x], argTypes := #[63, 63] })
    (b o' N0 g1 c1 g2 c2 : Nat) (hs : a.eval s = .slice (some ⟨g1, 0, none⟩) 15 c1) (hx : a.eval x = .slice (some ⟨g2, 0, none⟩) 4 c2) (n1 : NumsIn g1 c1 (firstA b o') w) (n2 : NumsIn g2 c2 (secondA b o') w) (h1 : N0 ≤ g1) (hN : N0 ≤ w.heap.size)
    (h : ∀ v' w', Aft b o' N0 w v' w' → wpList Tryd.prog ops Q rest (a.put o.dst v') w') : wpList Tryd.prog ops Q (o :: rest) a w := by
  have info : (Tryd.prog.info? 68).map (fun i => (i.zero, i.size, i.bytes)) = some (some (.agg #[.string ⟨#[]⟩, .pointer none, .int .i64 0, .int .i64 0]), 4, 40) := by kernel_rfl
  obtain ⟨i0, hi, hz0, hz1, hz2⟩ := info_parts info
  have l1 : (rowsV (firstA b o')).length = 15 * 4 := rowsV_length _
  have l2 : (rowsV (secondA b o')).length = 4 * 4 := rowsV_length _
  refine wpList_append_arg w hg s x 63 hop 68 i0 _ 4 40 (show Tryd.prog.underlying 63 = some (.slice 68) by kernel_rfl) hi hz0 hz1 hz2 rfl (by decide) g1 0 15 c1 (rowsV (firstA b o')) hs l1 (fun j u hu => by rw [Nat.zero_add]; exact n1.cells j u hu)
    ⟨g2, 0, none⟩ 4 c2 (rowsV (secondA b o')) hx l2 (fun j u hu => (by rw [add_none, Nat.zero_add]; exact n2.cells j u hu)) (rowsV_one _) (fun hr j hj => ?_) (by decide) (by decide) (fun hr => ?_) (fun hr v' w' hown hgrow => ?_)
  · rw [l2] at hj
    have := n1.spare (15 * 4 + j) (by omega)
    rw [Nat.zero_add]
    exact this
  · refine h _ _ ⟨⟨g1, c1, rfl, h1, ?_, hr, fun j u hu => ?_⟩, ?_⟩
    · rw [setCells_size]; exact n1.lt
    · rw [rowsV_append] at hu
      by_cases hj : j < 15 * 4
      · rw [List.getElem?_append_left (by omega)] at hu
        rw [World.cell?_setCells_out _ _ _ _ _ (fun _ _ => .inl (by show j < 0 + 15 * 4; omega))]
        exact n1.cells j u hu
      · rw [List.getElem?_append_right (by omega), l1] at hu
        have hlt := (List.getElem?_eq_some_iff.1 hu).1
        have := World.cell?_setCells_in g1 (rowsV (secondA b o')) (0 + 15 * 4) w (fun k hk => (n1.spare (0 + 15 * 4 + k) (by omega)).1) (j - 15 * 4) hlt
        rw [show 0 + 15 * 4 + (j - 15 * 4) = j by omega] at this
        rw [this, ← hu, List.getElem?_eq_getElem hlt]
    · exact setCells_below h1 _ _ _
  · rcases hown.2 with ⟨_, h0⟩ | ⟨g, cap, cur, e1, e2, e3, e4, _, e5, e6⟩
    · omega
    · refine h _ _ ⟨⟨g, cap, e1, Nat.le_trans hN e2, lt_of_some e3, e4, fun j u hu => ?_⟩, hgrow.os, hgrow.tape, hgrow.output, hgrow.size, fun k hk => hgrow.block k (Nat.lt_of_lt_of_le hk hN) (fun h => by cases h)⟩
      rw [rowsV_append, ← e6] at hu
      have hlt := (List.getElem?_eq_some_iff.1 hu).1
      rw [List.length_take] at hlt
      rw [List.getElem?_take] at hu
      split at hu
      · rw [Lib.cell_of_heap e3]
        simpa using hu
      · cases hu

end Go.Proofs.YtlakpbfmcnlnbaaDoor
namespace Go.Proofs.YtlakpbfmcnlnbaaDoor
open Go VE Go.RowKit

attribute [local go_sem ↓] Go.wp_at_zero Go.wp_at_succ

theorem num2_calls {g : FuncId} {v : ByteArray} {n : Int} {r : Bool} (h : VE.Returns Tryd.prog g [.c (.v (.string v))] (.tup [vi .i64 n, vb r])) {ok : Nat → Nat → Prop} {w : World} (hok : ∀ b o, ok b o → b < w.heap.size) (hl : Laid ok w) :
    Calls Tryd.prog g #[.string v] w fun e w' => e = .returned (.tuple #[.int .i64 n, .bool r]) ∧ Below w.heap.size w w' := by
  refine (h w #[.string v] ok hok hl rfl fun j c hc => ?_).mono fun e w' ⟨u, he, hb, hr⟩ => ?_
  · cases j with
    | zero => simp at hc; subst hc; exact .c _ _ (.v _ rfl)
    | succ j => simp at hc
  · cases hr with
    | tup us _ hs hv =>
      have v1 := (iv_v (hv 0 _ rfl)).1
      have v2 := (iv_v (hv 1 _ rfl)).1
      have hus : us = #[us.getD 0 undef, us.getD 1 undef] := by
        obtain ⟨L⟩ := us
        match L, hs with
        | [a, b], _ => rfl
      rw [v1, v2] at hus
      rw [he, hus]
      exact ⟨rfl, hb⟩

theorem OneBlk.drew {b : Nat} {vs : Array Value} {e : TypeId} {w0 w : World} (h : OneBlk b vs e w0 w) (n : Nat) : OneBlk b vs e w0 (w.drewN n) := ⟨h.blk, h.fr.os, h.fr.tape, h.fr.output, h.fr.size, h.fr.block⟩
theorem find_first {α : Type} {p : α → Bool} : ∀ (l : List α) (k : Nat) (x : α), l[k]? = some x → p x = true → (∀ j y, j < k → l[j]? = some y → p y = false) → l.find? p = some x
  | [], k, x, h, _, _ => by simp at h
  | a :: l, 0, x, h, hp, _ => by
    simp at h; subst h
    exact List.find?_cons_of_pos hp
  | a :: l, k + 1, x, h, hp, hpre => by
    have h0 := hpre 0 a (by omega) rfl
    rw [List.find?_cons_of_neg (by rw [h0]; exact Bool.false_ne_true)]
    exact find_first l k x (by simpa using h) hp fun j y hj hy => hpre (j + 1) y (by omega) (by simpa using hy)
theorem nums_mem {b : Nat} {x : El TNumA} (h : x ∈ firstA b 0 ++ secondA b 0) : x.2.1.1 = b ∧ x.2.1.2 < 20 := by
  unfold firstA secondA at h
  simp only [List.cons_append, List.nil_append, List.mem_cons, List.not_mem_nil, or_false] at h
  rcases h with rfl | rfl | rfl | rfl | rfl | rfl | rfl | rfl | rfl | rfl | rfl | rfl | rfl | rfl | rfl | rfl | rfl | rfl | rfl <;> exact ⟨rfl, Nat.le_of_ble_eq_true rfl⟩
theorem nums_len (b : Nat) : (firstA b 0 ++ secondA b 0).length = 19 := rfl

def numAt (b : Nat) (s : ByteArray) : Option (El TNumA) := (firstA b 0 ++ secondA b 0).find? fun x => x.1.toList == s.toList

def NumPost (b : Nat) (vs : Array Value) (e0 : TypeId) (n : Int) (r : Bool) (w : World) (z : Option (El TNumA)) (e : Ending) (w' : World) : Prop :=
  match z with
  | none => e = .returned (.bool false) ∧ OneBlk b vs e0 w w'
  | some x => e = .returned (.bool (r && (decide (x.2.2.1 ≤ n) && decide (n ≤ x.2.2.2)))) ∧ OneBlk b (vs.setIfInBounds x.2.1.2 (.int .i64 n)) e0 w w'

set_option maxHeartbeats 8000000 in
set_option maxRecDepth 1000000 in
theorem set_num (b : Nat) (s v : ByteArray) (x1 : (s.toList == [111, 110, 101]) = false) (x2 : (s.toList == [102, 97, 108, 108, 98, 97, 99, 107]) = false) (x3 : (s.toList == [112, 111, 108, 105, 99, 121]) = false) (x4 : (s.toList == [122, 111, 110, 101]) = false)
    (n : Int) (r : Bool) (hv : VE.Returns Tryd.prog 40 [.c (.v (.string v))] (.tup [vi .i64 n, vb r])) (w : World) (vs : Array Value) (e0 : TypeId) (hB : w.heap[b]? = some (.cells vs e0 (0, 0))) (hs : vs.size = 23)
    (ok : Nat → Nat → Prop) (hok : ∀ c o, ok c o → c < w.heap.size) (hne : ∀ o, ¬ ok b o) (hl : Laid ok w) :
    Calls Tryd.prog 22 #[.pointer (some ⟨b, 0, none⟩), .string s, .string v] w fun e w' =>
      NumPost b vs e0 n r w (numAt b s) e w' := by
  have hn : Tryd.f22.ntmps = 125 := rfl
  have hlt : b < w.heap.size := lt_of_some hB
  go_enter Tryd.func22, hn
  go_wp2_with (go_at_call 29; refine (num_calls b 0 hok hl).mono ?_)
  rintro e w1 ⟨g1, c1, g2, c2, rfl, n1, n2, o1, o2, hb1⟩
  go_wp2_with (at_builtin; refine wpList_nums _ rfl _ _ rfl b 0 w.heap.size g1 c1 g2 c2 rfl rfl n1 n2 o1 hb1.size ?_)
  rintro v' w2 ⟨⟨g, cap, rfl, hg0, hg, hcap, hcells⟩, hb2⟩
  go_wp2
  go_loopw [89] (fun i wr => ∃ k : Nat, k ≤ 19 ∧ i = .int .i64 (k : Int) ∧ Below w2.heap.size w2 wr ∧ ∀ j x, j < k → (firstA b 0 ++ secondA b 0)[j]? = some x → (x.1.toList == s.toList) = false)
    (fun i _ => 19 - (intOf i).toNat)
  case atStart => exact ⟨0, by omega, rfl, Below.refl _ _, fun j x hj => absurd hj (by omega)⟩
  case round =>
    obtain ⟨k, hk, rfl, hwr, hpre⟩ := hrel
    by_cases hk2 : k < 19
    · obtain ⟨x, hx⟩ : ∃ x, (firstA b 0 ++ secondA b 0)[k]? = some x := ⟨_, List.getElem?_eq_getElem (by rw [nums_len]; exact hk2)⟩
      obtain ⟨m1, m2⟩ := nums_mem (List.mem_of_getElem? hx)
      obtain ⟨nm, ⟨pb, po⟩, lo, hi⟩ := x
      simp only at m1 m2
      subst m1
      have hb3 : Below w.heap.size w wr := (hb1.trans hb2).trans (hwr.mono (Nat.le_trans hb1.size hb2.size))
      have cell : ∀ j u, j < 4 → (rowV (nm, (pb, po), lo, hi))[j]? = some u → wr.cell? ⟨g, k * 4 + j, none⟩ = some u := fun j u hj hu =>
        (hwr.cell (p := ⟨g, k * 4 + j, none⟩) hg).trans (hcells (k * 4 + j) u (by rw [rowsV_get _ k _ j hx hj]; exact hu))
      have d0 : wr.cell? ⟨g, k * 4, none⟩ = some (.string nm) := cell 0 _ (by decide) rfl
      have d1 : wr.cell? ⟨g, k * 4 + 1, none⟩ = some (.pointer (some ⟨pb, po, none⟩)) := cell 1 _ (by decide) rfl
      have d2 : wr.cell? ⟨g, k * 4 + 2, none⟩ = some (.int .i64 lo) := cell 2 _ (by decide) rfl
      have d3 : wr.cell? ⟨g, k * 4 + 3, none⟩ = some (.int .i64 hi) := cell 3 _ (by decide) rfl
      clear cell
      cases he : nm.toList == s.toList
      · go_wp2
        go_roundw
        case rel =>
          refine ⟨k + 1, by omega, by go_num, hwr.trans ((Below.refl _ _).alloc (by have := hwr.size; omega) _), fun j x hj hx2 => ?_⟩
          by_cases hjk : j < k
          · exact hpre j x hjk hx2
          · rw [show j = k by omega, hx] at hx2
            cases hx2
            exact he
        case measure => simp [intOf]; omega
      · go_wp2
        have e1 : (wr.alloc (.cells #[.string nm, .pointer (some ⟨pb, po, none⟩), .int .i64 lo, .int .i64 hi] 68 (0, 0))).cell? ⟨wr.heap.size, 1, none⟩ = some (.pointer (some ⟨pb, po, none⟩)) := cell_fresh _ _ _ _
        have e2 : (wr.alloc (.cells #[.string nm, .pointer (some ⟨pb, po, none⟩), .int .i64 lo, .int .i64 hi] 68 (0, 0))).cell? ⟨wr.heap.size, 2, none⟩ = some (.int .i64 lo) := cell_fresh _ _ _ _
        have e3 : (wr.alloc (.cells #[.string nm, .pointer (some ⟨pb, po, none⟩), .int .i64 lo, .int .i64 hi] 68 (0, 0))).cell? ⟨wr.heap.size, 3, none⟩ = some (.int .i64 hi) := cell_fresh _ _ _ _
        have hI : OneBlk pb vs e0 w (wr.alloc (.cells #[.string nm, .pointer (some ⟨pb, po, none⟩), .int .i64 lo, .int .i64 hi] 68 (0, 0))) := ((OneBlk.refl hB).below hb3).below ((Below.refl _ _).alloc (Nat.le_refl _) _)
        have hL : Laid ok (wr.alloc (.cells #[.string nm, .pointer (some ⟨pb, po, none⟩), .int .i64 lo, .int .i64 hi] 68 (0, 0))) := (laid_below hok hl (hb3.trans ((Below.refl _ _).alloc (by have := hb3.size; omega) _))).1
        have hO : ∀ c o, ok c o → c < (wr.alloc (.cells #[.string nm, .pointer (some ⟨pb, po, none⟩), .int .i64 lo, .int .i64 hi] 68 (0, 0))).heap.size := (laid_below hok hl (hb3.trans ((Below.refl _ _).alloc (by have := hb3.size; omega) _))).2
        have hz : wr.heap.size < (wr.alloc (.cells #[.string nm, .pointer (some ⟨pb, po, none⟩), .int .i64 lo, .int .i64 hi] 68 (0, 0))).heap.size := by
          show wr.heap.size < (wr.heap.push _).size
          rw [Array.size_push]; omega
        have hsome : numAt pb s = some (nm, (pb, po), lo, hi) := find_first _ k _ hx he hpre
        clear d0 d1 d2 d3 hcells hpre
        generalize wr.alloc (.cells #[.string nm, .pointer (some ⟨pb, po, none⟩), .int .i64 lo, .int .i64 hi] 68 (0, 0)) = W at *
        have aft : ∀ w3, Below W.heap.size W w3 → w3.cell? ⟨wr.heap.size, 1, none⟩ = some (.pointer (some ⟨pb, po, none⟩)) ∧ w3.cell? ⟨wr.heap.size, 2, none⟩ = some (.int .i64 lo) ∧ w3.cell? ⟨wr.heap.size, 3, none⟩ = some (.int .i64 hi) ∧
            w3.cell? ⟨pb, po, none⟩ = some (vs.getD po undef) ∧ w3.frozen? ⟨pb, po, none⟩ = false ∧ OneBlk pb vs e0 w w3 := fun w3 hb4 => by
          have hI3 := hI.below hb4
          obtain ⟨k1, k2⟩ := cell_blk (j := po) hI3.blk (by omega)
          exact ⟨(hb4.cell (p := ⟨wr.heap.size, 1, none⟩) hz).trans e1, (hb4.cell (p := ⟨wr.heap.size, 2, none⟩) hz).trans e2, (hb4.cell (p := ⟨wr.heap.size, 3, none⟩) hz).trans e3, k1, k2, hI3⟩
        have hnb : pb ≠ wr.heap.size := by have := hb3.size; omega
        go_region_held3 (fun w' => w'.cell? ⟨wr.heap.size, 1, none⟩ = some (.pointer (some ⟨pb, po, none⟩))) (first | go_keep | (rw [World.cell?_setCell_far _ _ _ _ hnb]; assumption))
          (first | (go_at_call 40; refine (num2_calls hv (ok := ok) (by exact hO) (by exact hL)).mono ?_; rintro e w3 ⟨rfl, hb4⟩; obtain ⟨f1, f2, f3, k1, k2, hI3⟩ := aft _ ⟨hb4.os, hb4.tape, hb4.output, hb4.size, hb4.block⟩))
        have hI4 := hI3.set (j := po) (.int .i64 n)
        have q1 := (World.cell?_setCell_far w3 ⟨pb, po, none⟩ ⟨wr.heap.size, 1, none⟩ (.int .i64 n) hnb).trans f1
        have q2 := (World.cell?_setCell_far w3 ⟨pb, po, none⟩ ⟨wr.heap.size, 2, none⟩ (.int .i64 n) hnb).trans f2
        have q3 := (World.cell?_setCell_far w3 ⟨pb, po, none⟩ ⟨wr.heap.size, 3, none⟩ (.int .i64 n) hnb).trans f3
        have q4 : (w3.setCell ⟨pb, po, none⟩ (.int .i64 n)).cell? ⟨pb, po, none⟩ = some (.int .i64 n) := by
          rw [(cell_blk (j := po) hI4.blk (by rw [Array.size_setIfInBounds]; omega)).1]
          simp [Array.getD, show po < vs.size by omega]
        clear f1 f2 f3 k1 k2 e1 e2 e3
        generalize w3.setCell ⟨pb, po, none⟩ (.int .i64 n) = W2 at *
        cases r
        · go_wp2
          go_quiet (fail)
          go_wp2
          go_ret
          rw [hsome]
          exact ⟨rfl, hI4.drew _⟩
        · by_cases hlo : lo ≤ n
          · go_wp2
            go_quiet (fail)
            go_wp2
            go_ret
            rw [hsome]
            refine ⟨?_, hI4.drew _⟩
            show Ending.returned (.bool (decide (n ≤ hi))) = .returned (.bool (true && (decide (lo ≤ n) && decide (n ≤ hi))))
            rw [decide_eq_true hlo]; rfl
          · have hd : decide (lo ≤ n) = false := decide_eq_false hlo
            go_wp2
            go_quiet (fail)
            go_wp2
            go_ret
            rw [hsome]
            refine ⟨?_, hI4.drew _⟩
            show Ending.returned (.bool false) = .returned (.bool (true && (decide (lo ≤ n) && decide (n ≤ hi))))
            rw [hd]; rfl
    · have hkl : k = 19 := by omega
      subst hkl
      have hnone : numAt b s = none := List.find?_eq_none.2 fun x hx => by
        obtain ⟨j, hj⟩ := List.mem_iff_getElem?.1 hx
        have hlt2 := (List.getElem?_eq_some_iff.1 hj).1
        rw [nums_len] at hlt2
        rw [hpre j x hlt2 hj]
        exact Bool.false_ne_true
      go_wp2
      go_ret
      rw [hnone]
      exact ⟨rfl, (OneBlk.refl hB).below ((hb1.trans hb2).trans (hwr.mono (Nat.le_trans hb1.size hb2.size)))⟩

end Go.Proofs.YtlakpbfmcnlnbaaDoor
namespace Go.Proofs.YtlakpbfmcnlnbaaDoor
open Go VE

theorem all_any {α : Type} (p : α → Bool) (l : List α) : l.all p = !l.any (fun x => !p x) := by
  induction l with
  | nil => rfl
  | cons a l ih => simp only [List.all_cons, List.any_cons, ih]; cases p a <;> rfl

theorem numbers_ok : numbers.OK := numbers.mk .nil fun x0 _ => ⟨1, by rw [numbers.start]; rfl⟩

theorem cDef_ok : cDef.OK := cDef.mk .nil fun _ _ => ⟨1, by rw [cDef.start]; rfl⟩

theorem zone_fit {c : El TConfig} (h : fits TConfig c = true) : fits .str (cZone c) = true := by
  have h2 : (fits .str (cZone c) && true) = true := h
  simpa using h2

theorem cMay_ok : cMay.OK := cMay.mk (nameW_ok.cons' .nil) (numbers_ok.cons' .nil) fun c hx => by
  have hc : fits TConfig c = true := by simpa [cMay.pre] using hx
  refine ⟨21, ?_⟩
  rw [cMay.start, test_true (b := numbers.pre _) hx]
  have hl := loop_find (t := TNum) (firstL c ++ secondL c) (fun m k => cMay.l1 m (firstL c ++ secondL c) 19 k c.1 c.2.1 c.2.2.1 c.2.2.2.1 c.2.2.2.2.1 c.2.2.2.2.2.1 c.2.2.2.2.2.2.1 c.2.2.2.2.2.2.2.1 c.2.2.2.2.2.2.2.2.1 c.2.2.2.2.2.2.2.2.2.1 c.2.2.2.2.2.2.2.2.2.2.1 c.2.2.2.2.2.2.2.2.2.2.2.1 c.2.2.2.2.2.2.2.2.2.2.2.2.1 c.2.2.2.2.2.2.2.2.2.2.2.2.2.1 c.2.2.2.2.2.2.2.2.2.2.2.2.2.2.1 c.2.2.2.2.2.2.2.2.2.2.2.2.2.2.2.1 c.2.2.2.2.2.2.2.2.2.2.2.2.2.2.2.2.1 c.2.2.2.2.2.2.2.2.2.2.2.2.2.2.2.2.2.1 c.2.2.2.2.2.2.2.2.2.2.2.2.2.2.2.2.2.2.1 c.2.2.2.2.2.2.2.2.2.2.2.2.2.2.2.2.2.2.2.1 c.2.2.2.2.2.2.2.2.2.2.2.2.2.2.2.2.2.2.2.2.1 c.2.2.2.2.2.2.2.2.2.2.2.2.2.2.2.2.2.2.2.2.2.1 c.2.2.2.2.2.2.2.2.2.2.2.2.2.2.2.2.2.2.2.2.2.2) (fun n => !inR n) (fun _ => some (vb false, []))
    (some (vb ((decide (1 ≤ cPolicy c) && decide (cPolicy c ≤ 3)) && zoneB (cZone c)), [])) (fun m k hk => by
      have hk : k < 19 := hk
      rw [cMay.s1, cond_dt (by omega), test_d (by omega), test_d (show (k : Int) < ((firstL c ++ secondL c).length : Int) by show (k : Int) < 19; omega), w64s (by omega), toNat_cast]
      generalize rdEl TNum (firstL c ++ secondL c) k = n
      unfold inR
      by_cases h1 : n.2.1 < n.2.2.1
      · rw [cond_dt h1, dec_f (Int.not_le.2 h1)]; rfl
      · rw [cond_df h1, dec_t (Int.not_lt.1 h1)]
        by_cases h2 : n.2.1 > n.2.2.2
        · rw [cond_dt h2, dec_f (Int.not_le.2 h2)]; rfl
        · rw [cond_df h2, dec_t (Int.not_lt.1 h2)]; rfl) (fun m => by
      show cMay.l1 (m + 1) (firstL c ++ secondL c) 19 19 c.1 c.2.1 c.2.2.1 c.2.2.2.1 c.2.2.2.2.1 c.2.2.2.2.2.1 c.2.2.2.2.2.2.1 c.2.2.2.2.2.2.2.1 c.2.2.2.2.2.2.2.2.1 c.2.2.2.2.2.2.2.2.2.1 c.2.2.2.2.2.2.2.2.2.2.1 c.2.2.2.2.2.2.2.2.2.2.2.1 c.2.2.2.2.2.2.2.2.2.2.2.2.1 c.2.2.2.2.2.2.2.2.2.2.2.2.2.1 c.2.2.2.2.2.2.2.2.2.2.2.2.2.2.1 c.2.2.2.2.2.2.2.2.2.2.2.2.2.2.2.1 c.2.2.2.2.2.2.2.2.2.2.2.2.2.2.2.2.1 c.2.2.2.2.2.2.2.2.2.2.2.2.2.2.2.2.2.1 c.2.2.2.2.2.2.2.2.2.2.2.2.2.2.2.2.2.2.1 c.2.2.2.2.2.2.2.2.2.2.2.2.2.2.2.2.2.2.2.1 c.2.2.2.2.2.2.2.2.2.2.2.2.2.2.2.2.2.2.2.2.1 c.2.2.2.2.2.2.2.2.2.2.2.2.2.2.2.2.2.2.2.2.2.1 c.2.2.2.2.2.2.2.2.2.2.2.2.2.2.2.2.2.2.2.2.2.2 = _
      rw [cMay.s1, cond_df (by omega)]
      by_cases h1 : 1 ≤ cPolicy c
      · rw [cond_dt (show cPolicy c ≥ 1 from h1), dec_t h1]
        by_cases h2 : cPolicy c ≤ 3
        · rw [cond_dt h2, dec_t h2]
          unfold zoneB
          cases (cZone c).toList == (⟨#[]⟩ : ByteArray).toList with
          | true => rfl
          | false =>
            exact (test_true (b := nameW.pre (cZone c, ())) (by simpa [nameW.pre] using zone_fit hc)).trans rfl
        · rw [cond_df h2, dec_f h2]; rfl
      · rw [cond_df (show ¬ cPolicy c ≥ 1 from h1), dec_f h1]; rfl) 19 0 rfl
  have hl : cMay.l1 20 (firstL c ++ secondL c) 19 0 c.1 c.2.1 c.2.2.1 c.2.2.2.1 c.2.2.2.2.1 c.2.2.2.2.2.1 c.2.2.2.2.2.2.1 c.2.2.2.2.2.2.2.1 c.2.2.2.2.2.2.2.2.1 c.2.2.2.2.2.2.2.2.2.1 c.2.2.2.2.2.2.2.2.2.2.1 c.2.2.2.2.2.2.2.2.2.2.2.1 c.2.2.2.2.2.2.2.2.2.2.2.2.1 c.2.2.2.2.2.2.2.2.2.2.2.2.2.1 c.2.2.2.2.2.2.2.2.2.2.2.2.2.2.1 c.2.2.2.2.2.2.2.2.2.2.2.2.2.2.2.1 c.2.2.2.2.2.2.2.2.2.2.2.2.2.2.2.2.1 c.2.2.2.2.2.2.2.2.2.2.2.2.2.2.2.2.2.1 c.2.2.2.2.2.2.2.2.2.2.2.2.2.2.2.2.2.2.1 c.2.2.2.2.2.2.2.2.2.2.2.2.2.2.2.2.2.2.2.1 c.2.2.2.2.2.2.2.2.2.2.2.2.2.2.2.2.2.2.2.2.1 c.2.2.2.2.2.2.2.2.2.2.2.2.2.2.2.2.2.2.2.2.2.1 c.2.2.2.2.2.2.2.2.2.2.2.2.2.2.2.2.2.2.2.2.2.2 = _ := hl
  show cMay.l1 20 (firstL c ++ secondL c) 19 0 c.1 c.2.1 c.2.2.1 c.2.2.2.1 c.2.2.2.2.1 c.2.2.2.2.2.1 c.2.2.2.2.2.2.1 c.2.2.2.2.2.2.2.1 c.2.2.2.2.2.2.2.2.1 c.2.2.2.2.2.2.2.2.2.1 c.2.2.2.2.2.2.2.2.2.2.1 c.2.2.2.2.2.2.2.2.2.2.2.1 c.2.2.2.2.2.2.2.2.2.2.2.2.1 c.2.2.2.2.2.2.2.2.2.2.2.2.2.1 c.2.2.2.2.2.2.2.2.2.2.2.2.2.2.1 c.2.2.2.2.2.2.2.2.2.2.2.2.2.2.2.1 c.2.2.2.2.2.2.2.2.2.2.2.2.2.2.2.2.1 c.2.2.2.2.2.2.2.2.2.2.2.2.2.2.2.2.2.1 c.2.2.2.2.2.2.2.2.2.2.2.2.2.2.2.2.2.2.1 c.2.2.2.2.2.2.2.2.2.2.2.2.2.2.2.2.2.2.2.1 c.2.2.2.2.2.2.2.2.2.2.2.2.2.2.2.2.2.2.2.2.1 c.2.2.2.2.2.2.2.2.2.2.2.2.2.2.2.2.2.2.2.2.2.1 c.2.2.2.2.2.2.2.2.2.2.2.2.2.2.2.2.2.2.2.2.2.2 = some (vb (mayC c), [])
  rw [hl, List.drop_zero, ixF_any, mayC, all_any inR]
  cases (firstL c ++ secondL c).any fun x => !inR x <;> rfl

theorem bit_ok : bit.OK := bit.mk .nil fun b _ => ⟨1, by rw [bit.start]; cases b <;> rfl⟩

theorem numsR_ok : numsR.OK := numsR.mk (bit_ok.cons' .nil) fun c _ => ⟨1, by rw [numsR.start]; rfl⟩

theorem rowsR_ok : rowsR.OK := rowsR.mk .nil fun _ _ => ⟨1, by rw [rowsR.start]; rfl⟩

theorem madeR_ok : madeR.OK := madeR.mk .nil fun n z hx => by
  have hn : n.length = 23 := by
    have h : (fits (.sl (.int .i64)) n && (fits .str z && (decide (List.length n = 23) && true))) = true := hx
    simp only [Bool.and_eq_true, decide_eq_true_eq] at h
    exact h.2.2.1
  refine ⟨1, ?_⟩
  rw [madeR.start, hn]
  rfl

theorem defR_ok : defR.OK := defR.mk (rowsR_ok.cons' (madeR_ok.cons' .nil)) fun _ _ => ⟨30, by kernel_rfl⟩

/-- A number out of its bounds. -/
theorem outR_eq (a lo hi : Int) : (decide (a < lo) || decide (a > hi)) = !(decide (lo ≤ a) && decide (a ≤ hi)) := by
  by_cases h1 : a < lo
  · rw [dec_t h1, dec_f (by omega : ¬ lo ≤ a)]; rfl
  · rw [dec_f h1, dec_t (by omega : lo ≤ a)]
    by_cases h2 : a > hi
    · rw [dec_t h2, dec_f (by omega : ¬ a ≤ hi)]; rfl
    · rw [dec_f h2, dec_t (by omega : a ≤ hi)]; rfl

def qR (c : El TConfig) (k : Nat) : Bool := decide (rdEl (.int .i64) (numsL c) k < (rdEl TRow rowsL k).2.1) || decide (rdEl (.int .i64) (numsL c) k > (rdEl TRow rowsL k).2.2.1)
def bR (c : El TConfig) (k : Nat) : Bool := decide ((rdEl TRow rowsL k).2.1 ≤ rdEl (.int .i64) (numsL c) k) && decide (rdEl (.int .i64) (numsL c) k ≤ (rdEl TRow rowsL k).2.2.1)

theorem bitI_in (b : Bool) : (decide ((0 : Int) ≤ bitI b) && decide (bitI b ≤ 1)) = true := by cases b <;> rfl

theorem anyN_not (q b : Nat → Bool) (h : ∀ k, q k = !b k) : ∀ (n k : Nat), anyN q k n = !((List.range' k n).all b)
  | 0, k => rfl
  | n + 1, k => by
    rw [anyN, anyN_not q b h n (k + 1), h, List.range'_succ, List.all_cons]
    cases b k <;> rfl

theorem swap_and (l : List Bool) (x y : Bool) : ((l.all id) && (x && y)) = ((l.all id && x) && y) := by rw [Bool.and_assoc]

theorem rows_all (c : El TConfig) : ((List.range' 0 23).all (bR c)) = ((firstL c ++ secondL c).all inR && (decide (1 ≤ cPolicy c) && decide (cPolicy c ≤ 3))) := by
  have h15 : bR c 15 = true := bitI_in _
  have h22 : bR c 22 = true := bitI_in _
  have h21 : bR c 21 = true := rfl
  have e0 : bR c 0 = inR (rdEl TNum (firstL c ++ secondL c) 0) := rfl
  have e1 : bR c 1 = inR (rdEl TNum (firstL c ++ secondL c) 1) := rfl
  have e2 : bR c 2 = inR (rdEl TNum (firstL c ++ secondL c) 2) := rfl
  have e3 : bR c 3 = inR (rdEl TNum (firstL c ++ secondL c) 3) := rfl
  have e4 : bR c 4 = inR (rdEl TNum (firstL c ++ secondL c) 4) := rfl
  have e5 : bR c 5 = inR (rdEl TNum (firstL c ++ secondL c) 5) := rfl
  have e6 : bR c 6 = inR (rdEl TNum (firstL c ++ secondL c) 6) := rfl
  have e7 : bR c 7 = inR (rdEl TNum (firstL c ++ secondL c) 7) := rfl
  have e8 : bR c 8 = inR (rdEl TNum (firstL c ++ secondL c) 8) := rfl
  have e9 : bR c 9 = inR (rdEl TNum (firstL c ++ secondL c) 9) := rfl
  have e10 : bR c 10 = inR (rdEl TNum (firstL c ++ secondL c) 10) := rfl
  have e11 : bR c 11 = inR (rdEl TNum (firstL c ++ secondL c) 11) := rfl
  have e12 : bR c 12 = inR (rdEl TNum (firstL c ++ secondL c) 12) := rfl
  have e13 : bR c 13 = inR (rdEl TNum (firstL c ++ secondL c) 13) := rfl
  have e14 : bR c 14 = inR (rdEl TNum (firstL c ++ secondL c) 14) := rfl
  have e16 : bR c 16 = inR (rdEl TNum (firstL c ++ secondL c) 15) := rfl
  have e17 : bR c 17 = inR (rdEl TNum (firstL c ++ secondL c) 16) := rfl
  have e18 : bR c 18 = inR (rdEl TNum (firstL c ++ secondL c) 17) := rfl
  have e19 : bR c 19 = inR (rdEl TNum (firstL c ++ secondL c) 18) := rfl
  have e20 : bR c 20 = (decide (1 ≤ cPolicy c) && decide (cPolicy c ≤ 3)) := rfl
  show (bR c 0 && (bR c 1 && (bR c 2 && (bR c 3 && (bR c 4 && (bR c 5 && (bR c 6 && (bR c 7 && (bR c 8 && (bR c 9 && (bR c 10 && (bR c 11 && (bR c 12 && (bR c 13 && (bR c 14 && (bR c 15 && (bR c 16 && (bR c 17 && (bR c 18 && (bR c 19 && (bR c 20 && (bR c 21 && (bR c 22 && true))))))))))))))))))))))) = ((inR (rdEl TNum (firstL c ++ secondL c) 0) && (inR (rdEl TNum (firstL c ++ secondL c) 1) && (inR (rdEl TNum (firstL c ++ secondL c) 2) && (inR (rdEl TNum (firstL c ++ secondL c) 3) && (inR (rdEl TNum (firstL c ++ secondL c) 4) && (inR (rdEl TNum (firstL c ++ secondL c) 5) && (inR (rdEl TNum (firstL c ++ secondL c) 6) && (inR (rdEl TNum (firstL c ++ secondL c) 7) && (inR (rdEl TNum (firstL c ++ secondL c) 8) && (inR (rdEl TNum (firstL c ++ secondL c) 9) && (inR (rdEl TNum (firstL c ++ secondL c) 10) && (inR (rdEl TNum (firstL c ++ secondL c) 11) && (inR (rdEl TNum (firstL c ++ secondL c) 12) && (inR (rdEl TNum (firstL c ++ secondL c) 13) && (inR (rdEl TNum (firstL c ++ secondL c) 14) && (inR (rdEl TNum (firstL c ++ secondL c) 15) && (inR (rdEl TNum (firstL c ++ secondL c) 16) && (inR (rdEl TNum (firstL c ++ secondL c) 17) && (inR (rdEl TNum (firstL c ++ secondL c) 18) && true))))))))))))))))))) && (decide (1 ≤ cPolicy c) && decide (cPolicy c ≤ 3)))
  rw [e0, e1, e2, e3, e4, e5, e6, e7, e8, e9, e10, e11, e12, e13, e14, e16, e17, e18, e19, e20]
  rw [h15, h21, h22]
  generalize inR (rdEl TNum (firstL c ++ secondL c) 0) = b0
  generalize inR (rdEl TNum (firstL c ++ secondL c) 1) = b1
  generalize inR (rdEl TNum (firstL c ++ secondL c) 2) = b2
  generalize inR (rdEl TNum (firstL c ++ secondL c) 3) = b3
  generalize inR (rdEl TNum (firstL c ++ secondL c) 4) = b4
  generalize inR (rdEl TNum (firstL c ++ secondL c) 5) = b5
  generalize inR (rdEl TNum (firstL c ++ secondL c) 6) = b6
  generalize inR (rdEl TNum (firstL c ++ secondL c) 7) = b7
  generalize inR (rdEl TNum (firstL c ++ secondL c) 8) = b8
  generalize inR (rdEl TNum (firstL c ++ secondL c) 9) = b9
  generalize inR (rdEl TNum (firstL c ++ secondL c) 10) = b10
  generalize inR (rdEl TNum (firstL c ++ secondL c) 11) = b11
  generalize inR (rdEl TNum (firstL c ++ secondL c) 12) = b12
  generalize inR (rdEl TNum (firstL c ++ secondL c) 13) = b13
  generalize inR (rdEl TNum (firstL c ++ secondL c) 14) = b14
  generalize inR (rdEl TNum (firstL c ++ secondL c) 15) = b15
  generalize inR (rdEl TNum (firstL c ++ secondL c) 16) = b16
  generalize inR (rdEl TNum (firstL c ++ secondL c) 17) = b17
  generalize inR (rdEl TNum (firstL c ++ secondL c) 18) = b18
  generalize (decide (1 ≤ cPolicy c) && decide (cPolicy c ≤ 3)) = p
  cases b0 with
  | false => simp
  | true =>
  simp only [Bool.true_and]
  cases b1 with
  | false => simp
  | true =>
  simp only [Bool.true_and]
  cases b2 with
  | false => simp
  | true =>
  simp only [Bool.true_and]
  cases b3 with
  | false => simp
  | true =>
  simp only [Bool.true_and]
  cases b4 with
  | false => simp
  | true =>
  simp only [Bool.true_and]
  cases b5 with
  | false => simp
  | true =>
  simp only [Bool.true_and]
  cases b6 with
  | false => simp
  | true =>
  simp only [Bool.true_and]
  cases b7 with
  | false => simp
  | true =>
  simp only [Bool.true_and]
  cases b8 with
  | false => simp
  | true =>
  simp only [Bool.true_and]
  cases b9 with
  | false => simp
  | true =>
  simp only [Bool.true_and]
  cases b10 with
  | false => simp
  | true =>
  simp only [Bool.true_and]
  cases b11 with
  | false => simp
  | true =>
  simp only [Bool.true_and]
  cases b12 with
  | false => simp
  | true =>
  simp only [Bool.true_and]
  cases b13 with
  | false => simp
  | true =>
  simp only [Bool.true_and]
  cases b14 with
  | false => simp
  | true =>
  simp only [Bool.true_and]
  cases b15 with
  | false => simp
  | true =>
  simp only [Bool.true_and]
  cases b16 with
  | false => simp
  | true =>
  simp only [Bool.true_and]
  cases b17 with
  | false => simp
  | true =>
  simp only [Bool.true_and]
  cases b18 with
  | false => simp
  | true =>
  simp only [Bool.true_and]
  cases p <;> rfl

theorem mayCR_ok : mayCR.OK := mayCR.mk (numsR_ok.cons' (rowsR_ok.cons' (wordR_ok.cons' .nil))) fun c hx => by
  have hc : fits TConfig c = true := by simpa [mayCR.pre] using hx
  refine ⟨25, ?_⟩
  rw [mayCR.start, test_true (b := numsR.pre _) hx]
  have hl := loop_any (qR c) 23 (fun m k => mayCR.l1 m (numsL c) rowsL 23 k c.1 c.2.1 c.2.2.1 c.2.2.2.1 c.2.2.2.2.1 c.2.2.2.2.2.1 c.2.2.2.2.2.2.1 c.2.2.2.2.2.2.2.1 c.2.2.2.2.2.2.2.2.1 c.2.2.2.2.2.2.2.2.2.1 c.2.2.2.2.2.2.2.2.2.2.1 c.2.2.2.2.2.2.2.2.2.2.2.1 c.2.2.2.2.2.2.2.2.2.2.2.2.1 c.2.2.2.2.2.2.2.2.2.2.2.2.2.1 c.2.2.2.2.2.2.2.2.2.2.2.2.2.2.1 c.2.2.2.2.2.2.2.2.2.2.2.2.2.2.2.1 c.2.2.2.2.2.2.2.2.2.2.2.2.2.2.2.2.1 c.2.2.2.2.2.2.2.2.2.2.2.2.2.2.2.2.2.1 c.2.2.2.2.2.2.2.2.2.2.2.2.2.2.2.2.2.2.1 c.2.2.2.2.2.2.2.2.2.2.2.2.2.2.2.2.2.2.2.1 c.2.2.2.2.2.2.2.2.2.2.2.2.2.2.2.2.2.2.2.2.1 c.2.2.2.2.2.2.2.2.2.2.2.2.2.2.2.2.2.2.2.2.2.1 c.2.2.2.2.2.2.2.2.2.2.2.2.2.2.2.2.2.2.2.2.2.2) (some (vb false, [])) (some (vb (zoneB (cZone c)), [])) (fun m k hk => by
      rw [mayCR.s1, cond_dt (by omega), test_d (by omega), test_d (show (k : Int) < (rowsL.length : Int) by show (k : Int) < 23; omega), test_d (by omega), test_d (show (k : Int) < ((numsL c).length : Int) by show (k : Int) < 23; omega), w64s (by omega), toNat_cast]
      unfold qR
      by_cases h1 : rdEl (.int .i64) (numsL c) k < (rdEl TRow rowsL k).2.1
      · rw [cond_dt h1, dec_t h1]; rfl
      · rw [cond_df h1, dec_f h1, test_d (by omega), test_d (show (k : Int) < ((numsL c).length : Int) by show (k : Int) < 23; omega)]
        by_cases h2 : rdEl (.int .i64) (numsL c) k > (rdEl TRow rowsL k).2.2.1
        · rw [cond_dt h2, dec_t h2]; rfl
        · rw [cond_df h2, dec_f h2]; rfl) (fun m => by
      show mayCR.l1 (m + 1) (numsL c) rowsL 23 23 c.1 c.2.1 c.2.2.1 c.2.2.2.1 c.2.2.2.2.1 c.2.2.2.2.2.1 c.2.2.2.2.2.2.1 c.2.2.2.2.2.2.2.1 c.2.2.2.2.2.2.2.2.1 c.2.2.2.2.2.2.2.2.2.1 c.2.2.2.2.2.2.2.2.2.2.1 c.2.2.2.2.2.2.2.2.2.2.2.1 c.2.2.2.2.2.2.2.2.2.2.2.2.1 c.2.2.2.2.2.2.2.2.2.2.2.2.2.1 c.2.2.2.2.2.2.2.2.2.2.2.2.2.2.1 c.2.2.2.2.2.2.2.2.2.2.2.2.2.2.2.1 c.2.2.2.2.2.2.2.2.2.2.2.2.2.2.2.2.1 c.2.2.2.2.2.2.2.2.2.2.2.2.2.2.2.2.2.1 c.2.2.2.2.2.2.2.2.2.2.2.2.2.2.2.2.2.2.1 c.2.2.2.2.2.2.2.2.2.2.2.2.2.2.2.2.2.2.2.1 c.2.2.2.2.2.2.2.2.2.2.2.2.2.2.2.2.2.2.2.2.1 c.2.2.2.2.2.2.2.2.2.2.2.2.2.2.2.2.2.2.2.2.2.1 c.2.2.2.2.2.2.2.2.2.2.2.2.2.2.2.2.2.2.2.2.2.2 = _
      rw [mayCR.s1, cond_df (by omega)]
      unfold zoneB
      cases (cZone c).toList == (⟨#[]⟩ : ByteArray).toList with
      | true => rfl
      | false =>
        exact (test_true (b := wordR.pre (cZone c, ())) (by simpa [wordR.pre] using zone_fit hc)).trans rfl) 23 0 rfl
  have hl : mayCR.l1 24 (numsL c) rowsL 23 0 c.1 c.2.1 c.2.2.1 c.2.2.2.1 c.2.2.2.2.1 c.2.2.2.2.2.1 c.2.2.2.2.2.2.1 c.2.2.2.2.2.2.2.1 c.2.2.2.2.2.2.2.2.1 c.2.2.2.2.2.2.2.2.2.1 c.2.2.2.2.2.2.2.2.2.2.1 c.2.2.2.2.2.2.2.2.2.2.2.1 c.2.2.2.2.2.2.2.2.2.2.2.2.1 c.2.2.2.2.2.2.2.2.2.2.2.2.2.1 c.2.2.2.2.2.2.2.2.2.2.2.2.2.2.1 c.2.2.2.2.2.2.2.2.2.2.2.2.2.2.2.1 c.2.2.2.2.2.2.2.2.2.2.2.2.2.2.2.2.1 c.2.2.2.2.2.2.2.2.2.2.2.2.2.2.2.2.2.1 c.2.2.2.2.2.2.2.2.2.2.2.2.2.2.2.2.2.2.1 c.2.2.2.2.2.2.2.2.2.2.2.2.2.2.2.2.2.2.2.1 c.2.2.2.2.2.2.2.2.2.2.2.2.2.2.2.2.2.2.2.2.1 c.2.2.2.2.2.2.2.2.2.2.2.2.2.2.2.2.2.2.2.2.2.1 c.2.2.2.2.2.2.2.2.2.2.2.2.2.2.2.2.2.2.2.2.2.2 = _ := hl
  show mayCR.l1 24 (numsL c) rowsL 23 0 c.1 c.2.1 c.2.2.1 c.2.2.2.1 c.2.2.2.2.1 c.2.2.2.2.2.1 c.2.2.2.2.2.2.1 c.2.2.2.2.2.2.2.1 c.2.2.2.2.2.2.2.2.1 c.2.2.2.2.2.2.2.2.2.1 c.2.2.2.2.2.2.2.2.2.2.1 c.2.2.2.2.2.2.2.2.2.2.2.1 c.2.2.2.2.2.2.2.2.2.2.2.2.1 c.2.2.2.2.2.2.2.2.2.2.2.2.2.1 c.2.2.2.2.2.2.2.2.2.2.2.2.2.2.1 c.2.2.2.2.2.2.2.2.2.2.2.2.2.2.2.1 c.2.2.2.2.2.2.2.2.2.2.2.2.2.2.2.2.1 c.2.2.2.2.2.2.2.2.2.2.2.2.2.2.2.2.2.1 c.2.2.2.2.2.2.2.2.2.2.2.2.2.2.2.2.2.2.1 c.2.2.2.2.2.2.2.2.2.2.2.2.2.2.2.2.2.2.2.1 c.2.2.2.2.2.2.2.2.2.2.2.2.2.2.2.2.2.2.2.2.1 c.2.2.2.2.2.2.2.2.2.2.2.2.2.2.2.2.2.2.2.2.2.1 c.2.2.2.2.2.2.2.2.2.2.2.2.2.2.2.2.2.2.2.2.2.2 = some (vb (mayC c), [])
  rw [hl, anyN_not (qR c) (bR c) (fun k => outR_eq _ _ _), rows_all, mayC]
  generalize (firstL c ++ secondL c).all inR = A
  generalize (decide (1 ≤ cPolicy c) && decide (cPolicy c ≤ 3)) = p
  cases A <;> cases p <;> rfl

end Go.Proofs.YtlakpbfmcnlnbaaDoor
namespace Go.Proofs.YtlakpbfmcnlnbaaDoor
open Go VE Go.RowKit

def flatC (c : El TConfig) : Array Value := (flatVals TConfig c).toArray
theorem flat_size (c : El TConfig) : (flatC c).size = 23 := rfl
theorem enc_flatC (c : El TConfig) : enc TConfig c = (flatVals TConfig c).map .v := rfl
theorem flat_of {x : Xs} {w : World} {vs : Array Value} {c : El TConfig} (hs : vs.size = (enc TConfig c).length) (h : ∀ j d, (enc TConfig c)[j]? = some d → VRel x w (vs.getD j undef) d) : vs = flatC c := by
  have hs : vs.size = 23 := hs
  apply Array.ext
  · rw [hs, flat_size]
  · intro j h1 h2
    have h3 : (flatVals TConfig c)[j]? = some (flatC c)[j] := by
      rw [List.getElem?_eq_getElem (l := flatVals TConfig c) (i := j) h2]
      rfl
    have h4 := h j (.v (flatC c)[j]) (by rw [enc_flatC, List.getElem?_map, h3]; rfl)
    have h5 : vs.getD j undef = vs[j] := by simp [Array.getD, h1]
    rw [h5] at h4
    generalize vs[j] = z at h4
    cases h4
    rfl
theorem flat_rel {x : Xs} {w : World} {c : El TConfig} (j : Nat) (d : IC) (h : (enc TConfig c)[j]? = some d) : VRel x w ((flatC c).getD j undef) d := by
  rw [enc_flatC, List.getElem?_map] at h
  obtain ⟨u, hu, rfl⟩ := Option.map_eq_some_iff.1 h
  have e : (flatC c).getD j undef = u := by
    show (flatVals TConfig c).toArray.getD j undef = u
    simp [Array.getD_eq_getD_getElem?, hu]
  rw [e]
  refine .v u ?_
  have : ∀ u ∈ flatVals TConfig c, u.oneCell' = true := by
    intro u hu
    simp only [flatVals, List.cons_append, List.nil_append, List.mem_cons, List.not_mem_nil, or_false] at hu
    rcases hu with rfl | rfl | rfl | rfl | rfl | rfl | rfl | rfl | rfl | rfl | rfl | rfl | rfl | rfl | rfl | rfl | rfl | rfl | rfl | rfl | rfl | rfl | rfl <;> rfl
  exact this u (List.mem_of_getElem? hu)

theorem ofB_one {n id : Nat} {B b : Box} (h : ofB [(n, B)] id = some b) : id = n ∧ b = B := by
  unfold ofB at h
  simp only [List.map_cons, List.map_nil] at h
  by_cases e : id = n
  · subst e
    have : ofList none [(id, some B)] id = some B := by simp [ofList]
    rw [this] at h
    exact ⟨rfl, (Option.some.inj h).symm⟩
  · have hbq : Nat.beq id n = false := by
      rw [Bool.eq_false_iff]; exact fun h => e (Nat.eq_of_beq_eq_true h)
    have : ofList none [(n, some B)] id = none := by
      show (bif Nat.beq id n then some B else none) = none
      rw [hbq]; rfl
    rw [this] at h
    cases h

/-- What is shown of a world is a contract with an object. -/
theorem set_O {c c' : El TConfig} {s v : ByteArray} {r : Bool}
    (H : ∀ (w : World) (b : Nat) (e0 : TypeId) (ok : Nat → Nat → Prop), w.heap[b]? = some (.cells (flatC c) e0 (0, 0)) → (∀ c o, ok c o → c < w.heap.size) → (∀ o, ¬ ok b o) → Laid ok w →
      Calls Tryd.prog 22 #[.pointer (some ⟨b, 0, none⟩), .string s, .string v] w fun e w' => e = .returned (.bool r) ∧ OneBlk b (flatC c') e0 w w') :
    VE.ReturnsO Tryd.prog 22 [.c (.ref (oid 0) 0), .c (.v (.string s)), .c (.v (.string v))] [(oid 0, .cells 23 (enc TConfig c))] (vb r) [(oid 0, .cells 23 (enc TConfig c'))] := by
  intro w us M O x hx hus ha
  obtain ⟨u0, u1, u2, rfl⟩ : ∃ u0 u1 u2, us = #[u0, u1, u2] := by
    obtain ⟨L⟩ := us
    match L, hus with
    | [a, b, c], _ => exact ⟨a, b, c, rfl⟩
  have v0 := iv_c (ha 0 _ rfl)
  have v1 := (iv_v (ha 1 _ rfl)).1
  have v2 := (iv_v (ha 2 _ rfl)).1
  have v1 : u1 = .string s := v1
  have v2 : u2 = .string v := v2
  subst v1 v2
  have v0 : VRel x w u0 (.ref (oid 0) 0) := v0
  cases v0 with
  | ref _ _ q b hg hb =>
    have hb0 : ofB [(oid 0, .cells 23 (enc TConfig c))] (oid 0) = some (.cells 23 (enc TConfig c)) := by simp [ofB, ofList]
    obtain ⟨q', hq', hB⟩ := hx.box (oid 0) _ hb0
    rw [hg] at hq'; cases hq'
    obtain ⟨hM, hokp⟩ := hx.own (oid 0) _ q b hb0 rfl hg hb
    cases hB with
    | cells _ _ b' vs e0 hb' hw hs h =>
      rw [hb] at hb'; cases hb'
      have hvs := flat_of hs h
      subst hvs
      have hlt : b < w.heap.size := lt_of_some hw
      have hMb : M b := hM.resolve_left (by omega)
      refine (H w b e0 x.ok hw (fun c o h => hx.old c o (hx.okp c o h)) (fun o h => hokp o (hx.okp b o h)) hx.laid).mono fun e w' ⟨he, hI⟩ => ?_
      have hsame : ∀ k, k < w.heap.size → k ≠ b → w'.heap[k]? = w.heap[k]? := fun k hk hne => hI.fr.block k hk hne
      refine ⟨_, x, ofU [(oid 0, .cells 23 (enc TConfig c))], he, ⟨hI.fr.os, hI.fr.tape, hI.fr.output, hI.fr.size, fun k hk hne => hsame k hk (fun e => hne (e ▸ hMb))⟩, ?_, .c _ _ (.v _ rfl), fun n ty cs hn q hq => hq⟩
      refine ⟨fun id bx hid => ?_, fun i j bi bj qi qj k hi hj _ _ _ _ => ?_, fun i bi qi k hi hh hqi hk => ?_, hx.used, hx.okp, fun c o h => Nat.lt_of_lt_of_le (hx.old c o h) hI.fr.size, hI.fr.size, hx.okb, fun p hp => ?_⟩
      · obtain ⟨rfl, rfl⟩ := ofB_one hid
        exact ⟨q, hg, .cells _ _ b (flatC c') e0 hb hI.blk rfl fun j d hd => flat_rel j d hd⟩
      · rw [(ofB_one hi).1, (ofB_one hj).1]
      · obtain ⟨rfl, rfl⟩ := ofB_one hi
        exact hx.own (oid 0) _ qi k hb0 rfl hqi hk
      · obtain ⟨h1, h2⟩ := hx.laid p hp
        refine ⟨h1, ?_⟩
        rw [← h2]
        exact World.cell?_of_block (hsame p.1 (hx.old _ _ (hx.okp _ _ h1)) (fun e => hokp p.2.1 (hx.okp _ _ (e ▸ h1))))

end Go.Proofs.YtlakpbfmcnlnbaaDoor
namespace Go.Proofs.YtlakpbfmcnlnbaaDoor
open Go VE Go.RowKit

def nameLs : List (List UInt8) := [[105, 110, 116, 101, 114, 118, 97, 108], [116, 105, 109, 101, 111, 117, 116], [106, 105, 116, 116, 101, 114], [114, 105, 115, 101], [102, 97, 108, 108], [112, 97, 110, 105, 99], [111, 118, 101, 114], [101, 114, 114, 111, 114, 115], [115, 119, 101, 101, 112], [104, 111, 115, 116, 115], [114, 101, 113, 117, 101, 115, 116, 115], [102, 97, 99, 116, 111, 114], [102, 97, 105, 108, 115], [98, 97, 115, 101], [101, 106, 101, 99, 116], [111, 110, 101], [115, 108, 111, 119], [100, 114, 97, 105, 110], [104, 111, 115, 116, 108, 105, 109, 105, 116], [112, 111, 111, 108, 108, 105, 109, 105, 116], [112, 111, 108, 105, 99, 121], [122, 111, 110, 101], [102, 97, 108, 108, 98, 97, 99, 107]]
def atL (l : List UInt8) : List (List UInt8) → Nat → Option Nat
  | [], _ => none
  | r :: rs, i => cond (r == l) (some i) (atL l rs (i + 1))
theorem rowAt_eq (s : ByteArray) : rowAt s = atL s.toList nameLs 0 := by
  simp only [rowAt, atG, rowsL, atL, nameLs, ByteArray.toList_eq]
theorem lit_of {s : ByteArray} {l : List UInt8} (h : (s.toList == l) = true) : s = ⟨l.toArray⟩ := by
  have h := eq_of_beq h
  rw [ByteArray.toList_eq] at h
  cases s
  simp only at h
  rw [← h, Array.toArray_toList]
theorem flat_set (c : El TConfig) (i : Nat) (v : Value) : (flatC c).setIfInBounds i v = ((flatVals TConfig c).set i v).toArray := by
  show (flatVals TConfig c).toArray.setIfInBounds i v = _
  rw [List.setIfInBounds_toArray]
def cellV (n : List Int) (z : ByteArray) (j : Nat) : Value := if j = 21 then .string z else if j = 15 ∨ j = 22 then .bool (rdEl (.int .i64) n j == (1 : Int)) else .int .i64 (rdEl (.int .i64) n j)
def numsV (n : List Int) (z : ByteArray) : List Value := [cellV n z 0, cellV n z 1, cellV n z 2, cellV n z 3, cellV n z 4, cellV n z 5, cellV n z 6, cellV n z 7, cellV n z 8, cellV n z 9, cellV n z 10, cellV n z 11, cellV n z 12, cellV n z 13, cellV n z 14, cellV n z 15, cellV n z 16, cellV n z 17, cellV n z 18, cellV n z 19, cellV n z 20, cellV n z 21, cellV n z 22]
theorem made_V (n : List Int) (z : ByteArray) : flatVals TConfig (madeC n z) = numsV n z := rfl
theorem bit_eq (b : Bool) : (bitI b == (1 : Int)) = b := by cases b <;> rfl
theorem nums_V (c : El TConfig) : flatVals TConfig c = numsV (numsL c) (cZone c) := by
  have e15 : cellV (numsL c) (cZone c) 15 = .bool c.2.2.2.2.2.2.2.2.2.2.2.2.2.2.2.1 := congrArg Value.bool (bit_eq _)
  have e22 : cellV (numsL c) (cZone c) 22 = .bool c.2.2.2.2.2.2.2.2.2.2.2.2.2.2.2.2.2.2.2.2.2.2 := congrArg Value.bool (bit_eq _)
  unfold numsV
  rw [e15, e22]
  rfl
theorem numsV_get (n : List Int) (z : ByteArray) (j : Nat) (h : j < 23) : (numsV n z)[j]? = some (cellV n z j) := by
  rcases (by omega : j = 0 ∨ j = 1 ∨ j = 2 ∨ j = 3 ∨ j = 4 ∨ j = 5 ∨ j = 6 ∨ j = 7 ∨ j = 8 ∨ j = 9 ∨ j = 10 ∨ j = 11 ∨ j = 12 ∨ j = 13 ∨ j = 14 ∨ j = 15 ∨ j = 16 ∨ j = 17 ∨ j = 18 ∨ j = 19 ∨ j = 20 ∨ j = 21 ∨ j = 22) with rfl | rfl | rfl | rfl | rfl | rfl | rfl | rfl | rfl | rfl | rfl | rfl | rfl | rfl | rfl | rfl | rfl | rfl | rfl | rfl | rfl | rfl | rfl <;> rfl
theorem numsV_len (n : List Int) (z : ByteArray) : (numsV n z).length = 23 := rfl
theorem V_set {n n' : List Int} {z z' : ByteArray} {i : Nat} {v : Value} (hi : i < 23) (h0 : cellV n' z' i = v) (h : ∀ j, j < 23 → j ≠ i → cellV n' z' j = cellV n z j) : numsV n' z' = (numsV n z).set i v := by
  apply List.ext_getElem?
  intro j
  by_cases hj : j < 23
  · rw [numsV_get _ _ _ hj, List.getElem?_set]
    by_cases e : i = j
    · subst e
      rw [if_pos rfl, if_pos (by rw [numsV_len]; exact hj), h0]
    · rw [if_neg e, numsV_get _ _ _ hj, h j hj (fun h => e h.symm)]
  · rw [List.getElem?_eq_none (by rw [numsV_len]; omega), List.getElem?_eq_none (by rw [List.length_set, numsV_len]; omega)]
theorem rd_set {n : List Int} {i : Nat} {x : Int} (hi : i < n.length) : rdEl (.int .i64) (n.set i x) i = x := by
  show (n.set i x).getD i 0 = x
  rw [List.getD_eq_getElem?_getD, List.getElem?_set_self hi]; rfl
theorem rd_other {n : List Int} {i j : Nat} {x : Int} (h : j ≠ i) : rdEl (.int .i64) (n.set i x) j = rdEl (.int .i64) n j := by
  show (n.set i x).getD j 0 = n.getD j 0
  rw [List.getD_eq_getElem?_getD, List.getElem?_set_ne (Ne.symm h), List.getD_eq_getElem?_getD]
theorem cell_other {n : List Int} {z : ByteArray} {i j : Nat} {x : Int} (h : j ≠ i) : cellV (n.set i x) z j = cellV n z j := by
  unfold cellV
  rw [rd_other h]
theorem flat_num {c : El TConfig} (x : Int) (i : Nat) (hi : i < 21) (hne : i ≠ 15) : flatC (madeC ((numsL c).set i x) (cZone c)) = (flatC c).setIfInBounds i (.int .i64 x) := by
  rw [flat_set]
  show (flatVals TConfig _).toArray = _
  rw [made_V, nums_V c]
  refine congrArg List.toArray (V_set (by omega) ?_ fun j _ h => cell_other h)
  unfold cellV
  rw [if_neg (by omega), if_neg (by omega), rd_set (show i < 23 by omega)]
theorem flat_bit {c : El TConfig} (y : Bool) (i : Nat) (hi : i = 15 ∨ i = 22) : flatC (madeC ((numsL c).set i (bitI y)) (cZone c)) = (flatC c).setIfInBounds i (.bool y) := by
  rw [flat_set]
  show (flatVals TConfig _).toArray = _
  rw [made_V, nums_V c]
  refine congrArg List.toArray (V_set (by omega) ?_ fun j _ h => cell_other h)
  unfold cellV
  rw [if_neg (by omega), if_pos hi, rd_set (show i < 23 by omega), bit_eq]
theorem flat_zone {c : El TConfig} (z : ByteArray) : flatC (madeC (numsL c) z) = (flatC c).setIfInBounds 21 (.string z) := by
  rw [flat_set]
  show (flatVals TConfig _).toArray = _
  rw [made_V, nums_V c]
  refine congrArg List.toArray (V_set (by omega) rfl fun j _ h => ?_)
  unfold cellV
  rw [if_neg h, if_neg h]
theorem pol_eq (v : ByteArray) : polK v 3 = wordI v polL 0 := by
  have key : ∀ l : List UInt8, (if ([114, 105, 110, 103] == l) = true then (3 : Int) else if ([108, 101, 97, 115, 116] == l) = true then 2 else if ([114, 111, 117, 110, 100] == l) = true then 1 else 0) =
      cond ([114, 111, 117, 110, 100] == l) 1 (cond ([108, 101, 97, 115, 116] == l) 2 (cond ([114, 105, 110, 103] == l) 3 0)) := by
    intro l
    cases h1 : [114, 111, 117, 110, 100] == l
    · cases h2 : [108, 101, 97, 115, 116] == l
      · cases h3 : [114, 105, 110, 103] == l <;> rfl
      · have := eq_of_beq h2; subst this; rfl
    · have := eq_of_beq h1; subst this; rfl
  have e := key v.toList
  show (if ([114, 105, 110, 103] == v.toList) = true then (3 : Int) else _) = _
  rw [e]
  simp only [wordI, polL, ByteArray.toList_eq]
  rfl

theorem lit_list (a : List UInt8) : (⟨a.toArray⟩ : ByteArray).toList = a := by rw [ByteArray.toList_eq]

/-- The numbers' names, one by one. -/
theorem num_row {b : Nat} {s : ByteArray} (x1 : (s.toList == [111, 110, 101]) = false) (x2 : (s.toList == [102, 97, 108, 108, 98, 97, 99, 107]) = false) (x3 : (s.toList == [112, 111, 108, 105, 99, 121]) = false) (x4 : (s.toList == [122, 111, 110, 101]) = false) :
    numAt b s = (rowAt s).map fun i => ((rdEl TRow rowsL i).1, (b, 0 + i), (rdEl TRow rowsL i).2.1, (rdEl TRow rowsL i).2.2.1) := by
  rw [rowAt_eq]
  have y1 : ([111, 110, 101] == s.toList) = false := by rw [Bool.beq_comm] at x1; exact x1
  have y2 : ([102, 97, 108, 108, 98, 97, 99, 107] == s.toList) = false := by rw [Bool.beq_comm] at x2; exact x2
  have y3 : ([112, 111, 108, 105, 99, 121] == s.toList) = false := by rw [Bool.beq_comm] at x3; exact x3
  have y4 : ([122, 111, 110, 101] == s.toList) = false := by rw [Bool.beq_comm] at x4; exact x4
  unfold numAt
  generalize s.toList = l at *
  clear x1 x2 x3 x4
  unfold firstA secondA nameLs
  simp only [List.cons_append, List.nil_append, List.find?, atL, lit_list]
  cases h : ([105, 110, 116, 101, 114, 118, 97, 108] == l)
  case true => rfl
  simp only [cond_false]
  cases h : ([116, 105, 109, 101, 111, 117, 116] == l)
  case true => rfl
  simp only [cond_false]
  cases h : ([106, 105, 116, 116, 101, 114] == l)
  case true => rfl
  simp only [cond_false]
  cases h : ([114, 105, 115, 101] == l)
  case true => rfl
  simp only [cond_false]
  cases h : ([102, 97, 108, 108] == l)
  case true => rfl
  simp only [cond_false]
  cases h : ([112, 97, 110, 105, 99] == l)
  case true => rfl
  simp only [cond_false]
  cases h : ([111, 118, 101, 114] == l)
  case true => rfl
  simp only [cond_false]
  cases h : ([101, 114, 114, 111, 114, 115] == l)
  case true => rfl
  simp only [cond_false]
  cases h : ([115, 119, 101, 101, 112] == l)
  case true => rfl
  simp only [cond_false]
  cases h : ([104, 111, 115, 116, 115] == l)
  case true => rfl
  simp only [cond_false]
  cases h : ([114, 101, 113, 117, 101, 115, 116, 115] == l)
  case true => rfl
  simp only [cond_false]
  cases h : ([102, 97, 99, 116, 111, 114] == l)
  case true => rfl
  simp only [cond_false]
  cases h : ([102, 97, 105, 108, 115] == l)
  case true => rfl
  simp only [cond_false]
  cases h : ([98, 97, 115, 101] == l)
  case true => rfl
  simp only [cond_false]
  cases h : ([101, 106, 101, 99, 116] == l)
  case true => rfl
  simp only [cond_false]
  simp only [y1, cond_false]
  cases h : ([115, 108, 111, 119] == l)
  case true => rfl
  simp only [cond_false]
  cases h : ([100, 114, 97, 105, 110] == l)
  case true => rfl
  simp only [cond_false]
  cases h : ([104, 111, 115, 116, 108, 105, 109, 105, 116] == l)
  case true => rfl
  simp only [cond_false]
  cases h : ([112, 111, 111, 108, 108, 105, 109, 105, 116] == l)
  case true => rfl
  simp only [cond_false]
  simp only [y3, cond_false]
  simp only [y4, cond_false]
  simp only [y2, cond_false]
  rfl

end Go.Proofs.YtlakpbfmcnlnbaaDoor
namespace Go.Proofs.YtlakpbfmcnlnbaaDoor
open Go VE Go.RowKit

theorem atL_lt (l : List UInt8) : ∀ (rs : List (List UInt8)) (i k : Nat), atL l rs i = some k → i ≤ k ∧ k < i + rs.length
  | [], i, k, h => by cases h
  | r :: rs, i, k, h => by
    unfold atL at h
    cases hr : r == l
    · rw [hr, cond_false] at h
      have := atL_lt l rs (i + 1) k h
      rw [List.length_cons]; omega
    · rw [hr, cond_true] at h
      cases h
      rw [List.length_cons]; omega
theorem atL_get (l : List UInt8) : ∀ (rs : List (List UInt8)) (i k : Nat), atL l rs i = some k → rs[k - i]? = some l
  | [], i, k, h => by cases h
  | r :: rs, i, k, h => by
    have hlt := atL_lt l (r :: rs) i k h
    unfold atL at h
    cases hr : r == l
    · rw [hr, cond_false] at h
      have h1 := atL_get l rs (i + 1) k h
      have h2 := atL_lt l rs (i + 1) k h
      rw [show k - i = (k - (i + 1)) + 1 by omega, List.getElem?_cons_succ]
      exact h1
    · rw [hr, cond_true] at h
      cases h
      rw [Nat.sub_self, eq_of_beq hr]; rfl

theorem set_ok : set.OK := set.mkR fun c s v hx => by
  have h0 : (fits TConfig c && (fits .str s && (fits .str v && (decide (s.size ≤ 1000000 ∧ v.size ≤ 1000000) && true)))) = true := hx
  simp only [Bool.and_eq_true, decide_eq_true_eq] at h0
  obtain ⟨_, _, fv, ⟨_, hvs⟩, _⟩ := h0
  have hname : VE.Returns Tryd.prog 35 [.c (.v (.string v))] (vb (nameB v)) := SpecOK.returns nameW_ok (args := [.c (.v (.string v))]) (by
    show test (fits .str v && true) (some (vb (nameB v), [])) = _
    rw [fv]; rfl)
  have hnum : VE.Returns Tryd.prog 40 [.c (.v (.string v))] (.tup [vi .i64 (numB v).1, vb (numB v).2]) := SpecOK.returns number_ok (args := [.c (.v (.string v))]) (by
    show test (fits .str v && true) (some (_, [])) = _
    rw [fv]; rfl)
  refine set_O (c := c) (c' := setC c s v) (s := s) (v := v) (r := setOk c s v) fun w b e0 ok hB hok hne hl => ?_
  have hsz := flat_size c
  by_cases h15 : (s.toList == [111, 110, 101]) = true
  · have e := lit_of h15
    have ra : rowAt s = some 15 := by rw [rowAt_eq, eq_of_beq h15]; rfl
    have e1 : setOk c s v = (yesB v || noB v) := by unfold setOk; rw [ra]; rfl
    have e2 : flatC (setC c s v) = (flatC c).setIfInBounds 15 (.bool (yesB v)) := by unfold setC; rw [ra]; exact flat_bit (yesB v) 15 (.inl rfl)
    rw [e1, e2, e]
    exact set_one b v w (flatC c) e0 hB hsz
  rw [Bool.not_eq_true] at h15
  by_cases h22 : (s.toList == [102, 97, 108, 108, 98, 97, 99, 107]) = true
  · have e := lit_of h22
    have ra : rowAt s = some 22 := by rw [rowAt_eq, eq_of_beq h22]; rfl
    have e1 : setOk c s v = (yesB v || noB v) := by unfold setOk; rw [ra]; rfl
    have e2 : flatC (setC c s v) = (flatC c).setIfInBounds 22 (.bool (yesB v)) := by unfold setC; rw [ra]; exact flat_bit (yesB v) 22 (.inr rfl)
    rw [e1, e2, e]
    exact set_fallback b v w (flatC c) e0 hB hsz
  rw [Bool.not_eq_true] at h22
  by_cases h20 : (s.toList == [112, 111, 108, 105, 99, 121]) = true
  · have e := lit_of h20
    have ra : rowAt s = some 20 := by rw [rowAt_eq, eq_of_beq h20]; rfl
    have e1 : setOk c s v = decide (wordI v polL 0 > 0) := by unfold setOk; rw [ra]; rfl
    have e2 : flatC (setC c s v) = (flatC c).setIfInBounds 20 (.int .i64 (wordI v polL 0)) := by unfold setC; rw [ra]; exact flat_num (wordI v polL 0) 20 (by decide) (by decide)
    rw [e1, e2, e]
    exact (by rw [← pol_eq]; exact set_policy b v w (flatC c) e0 hB hsz)
  rw [Bool.not_eq_true] at h20
  by_cases h21 : (s.toList == [122, 111, 110, 101]) = true
  · have e := lit_of h21
    have ra : rowAt s = some 21 := by rw [rowAt_eq, eq_of_beq h21]; rfl
    have e1 : setOk c s v = (isB [45] v || nameB v) := by unfold setOk; rw [ra]; rfl
    have e2 : flatC (setC c s v) = (flatC c).setIfInBounds 21 (.string (if isB [45] v then ⟨#[]⟩ else v)) := by unfold setC; rw [ra]; exact flat_zone _
    rw [e1, e2, e]
    exact set_zone b v hname w (flatC c) e0 hB hsz ok hok hne hl
  rw [Bool.not_eq_true] at h21
  refine (set_num b s v h15 h22 h20 h21 (numB v).1 (numB v).2 hnum w (flatC c) e0 hB hsz ok hok hne hl).mono fun e w' hP => ?_
  rw [num_row h15 h22 h20 h21] at hP
  cases ra : rowAt s with
  | none =>
    rw [ra] at hP
    have e1 : setOk c s v = false := by unfold setOk; rw [ra]
    have e2 : setC c s v = c := by unfold setC; rw [ra]
    rw [e1, e2]
    exact hP
  | some i =>
    rw [ra] at hP
    have hr : atL s.toList nameLs 0 = some i := (rowAt_eq s).symm.trans ra
    have hlt := (atL_lt _ _ _ _ hr).2
    have hg := atL_get _ _ _ _ hr
    have hlt : i < 23 := by have : nameLs.length = 23 := rfl; omega
    have n15 : i ≠ 15 := fun h => by subst h; have : s.toList = [111, 110, 101] := (Option.some.inj hg).symm; rw [this] at h15; exact absurd h15 (by decide)
    have n20 : i ≠ 20 := fun h => by subst h; have : s.toList = [112, 111, 108, 105, 99, 121] := (Option.some.inj hg).symm; rw [this] at h20; exact absurd h20 (by decide)
    have n21 : i ≠ 21 := fun h => by subst h; have : s.toList = [122, 111, 110, 101] := (Option.some.inj hg).symm; rw [this] at h21; exact absurd h21 (by decide)
    have n22 : i ≠ 22 := fun h => by subst h; have : s.toList = [102, 97, 108, 108, 98, 97, 99, 107] := (Option.some.inj hg).symm; rw [this] at h22; exact absurd h22 (by decide)
    have e0 : setN (numsL c) (cZone c) i v = ((numB v).2 && (decide ((rdEl TRow rowsL i).2.1 ≤ (numB v).1) && decide ((numB v).1 ≤ (rdEl TRow rowsL i).2.2.1)), (numsL c).set i (numB v).1, cZone c) := by
      unfold setN
      rw [if_neg n21, if_neg n20, if_neg (by omega)]
    have e1 : setOk c s v = ((numB v).2 && (decide ((rdEl TRow rowsL i).2.1 ≤ (numB v).1) && decide ((numB v).1 ≤ (rdEl TRow rowsL i).2.2.1))) := by unfold setOk; rw [ra]; exact congrArg (·.1) e0
    have e2 : flatC (setC c s v) = (flatC c).setIfInBounds i (.int .i64 (numB v).1) := by
      unfold setC; rw [ra]
      show flatC (madeC (setN (numsL c) (cZone c) i v).2.1 (setN (numsL c) (cZone c) i v).2.2) = _
      rw [e0]
      exact flat_num _ i (by omega) n15
    rw [e1, e2]
    have hP : e = .returned (.bool ((numB v).2 && (decide ((rdEl TRow rowsL i).2.1 ≤ (numB v).1) && decide ((numB v).1 ≤ (rdEl TRow rowsL i).2.2.1)))) ∧ OneBlk b ((flatC c).setIfInBounds (0 + i) (.int .i64 (numB v).1)) _ w w' := hP
    rw [Nat.zero_add] at hP
    exact hP

end Go.Proofs.YtlakpbfmcnlnbaaDoor
namespace Go.Proofs.YtlakpbfmcnlnbaaDoor
open Go VE

/-! ### digits -/

theorem takeWhile_all {p : UInt8 → Bool} : ∀ {l : List UInt8}, (∀ b ∈ l, p b = true) → l.takeWhile p = l
  | [], _ => rfl
  | b :: l, h => by
    rw [List.takeWhile_cons, h b (List.mem_cons_self ..), if_pos rfl, takeWhile_all fun z hz => h z (List.mem_cons_of_mem _ hz)]
theorem sg_good {x : List UInt8} {l : List (List UInt8)} {i : Nat} {out : List Ln} (h : ml x = true) (hw : (wl x).length ≠ 0) : sg (x :: l) i out = sg l (i + 1) (out ++ [((i : Int) + 1, (wl x).map mk)]) := by
  rw [sg, if_pos h, if_neg hw]
theorem sg_none {x : List UInt8} {l : List (List UInt8)} {i : Nat} {out : List Ln} (h : ml x = true) (hw : (wl x).length = 0) : sg (x :: l) i out = sg l (i + 1) out := by
  rw [sg, if_pos h, if_pos hw]

def dB (n : Nat) : UInt8 := UInt8.ofNat (48 + n % 10)
def dg : Nat → Nat → List UInt8
  | 0, _ => []
  | f + 1, n => if n / 10 = 0 then [dB n] else dg f (n / 10) ++ [dB n]
theorem dB_toNat (n : Nat) : (dB n).toNat = 48 + n % 10 := by
  unfold dB
  rw [UInt8.toNat_ofNat']; omega
theorem dg_digit : ∀ (f n : Nat) (b : UInt8), b ∈ dg f n → 48 ≤ b.toNat ∧ b.toNat ≤ 57
  | 0, n, b, h => by cases h
  | f + 1, n, b, h => by
    unfold dg at h
    have hd := dB_toNat n
    split at h
    · cases List.mem_singleton.1 h; omega
    · rcases List.mem_append.1 h with h | h
      · exact dg_digit f _ b h
      · cases List.mem_singleton.1 h; omega
theorem dg_length : ∀ (f k n : Nat), n < 10 ^ (k + 1) → (dg f n).length ≤ k + 1
  | 0, k, n, _ => by simp [dg]
  | f + 1, 0, n, h => by
    unfold dg
    rw [if_pos (by omega)]; simp
  | f + 1, k + 1, n, h => by
    unfold dg
    split
    · simp
    · have := dg_length f k (n / 10) (by rw [Nat.pow_succ] at h; omega)
      rw [List.length_append]; simp; omega
theorem dg_pos (f n : Nat) : 1 ≤ (dg (f + 1) n).length := by
  unfold dg
  split <;> simp
/-- What a number's digits come to. -/
def numV : List UInt8 → Int → Option Int
  | [], x => some x
  | b :: l, x => if (b.toNat : Int) < 48 ∨ 57 < (b.toNat : Int) then none else numV l (x * 10 + ((b.toNat : Int) - 48))
theorem numG_eq {s : ByteArray} : ∀ (r i : Nat) (x : Int), i + r = s.size → numG s r i x = numV ((bs s).drop i) x
  | 0, i, x, h => by
    have hl := bs_length s
    rw [List.drop_eq_nil_of_le (by omega)]; rfl
  | r + 1, i, x, h => by
    have hl := bs_length s
    have hlt : i < (bs s).length := by omega
    have hb : byteAt s (i : Int) = (((bs s)[i]).toNat : Int) := by rw [byteAt_bs, List.getD_eq_getElem?_getD, List.getElem?_eq_getElem hlt]; rfl
    unfold numG
    rw [List.drop_eq_getElem_cons hlt, numV, hb, numG_eq r (i + 1) _ (by omega)]
theorem numV_snoc : ∀ (l : List UInt8) (b : UInt8) (x : Int), numV (l ++ [b]) x = (numV l x).bind fun y => numV [b] y
  | [], b, x => rfl
  | a :: l, b, x => by
    rw [List.cons_append, numV, numV]
    split
    · rfl
    · exact numV_snoc l b _
theorem numV_dB (n : Nat) (x : Int) : numV [dB n] x = some (x * 10 + (n % 10 : Nat)) := by
  have hd := dB_toNat n
  rw [numV, if_neg (by omega), numV, hd]
  congr 1
  omega
theorem numV_dg : ∀ (f n : Nat), n < 10 ^ f → numV (dg f n) 0 = some (n : Int)
  | 0, n, h => by
    have : n = 0 := by simp at h; exact h
    subst this; rfl
  | f + 1, n, h => by
    unfold dg
    by_cases h1 : n / 10 = 0
    · rw [if_pos h1, numV_dB]
      congr 1
      omega
    · rw [if_neg h1, numV_snoc, numV_dg f (n / 10) (by rw [Nat.pow_succ] at h; omega)]
      show numV [dB n] ((n / 10 : Nat) : Int) = _
      rw [numV_dB]
      congr 1
      omega
theorem dg_head : ∀ (f n : Nat), 1 ≤ n → n < 10 ^ f → ∃ b l, dg f n = b :: l ∧ b.toNat ≠ 48
  | 0, n, h, h2 => by simp at h2; omega
  | f + 1, n, h, h2 => by
    unfold dg
    have hd := dB_toNat n
    by_cases h1 : n / 10 = 0
    · rw [if_pos h1]
      exact ⟨_, _, rfl, by omega⟩
    · rw [if_neg h1]
      obtain ⟨b, l, e, hb⟩ := dg_head f (n / 10) (by omega) (by rw [Nat.pow_succ] at h2; omega)
      exact ⟨b, l ++ [dB n], by rw [e]; rfl, hb⟩
theorem byte0 {b : UInt8} {l : List UInt8} : byteAt (mk (b :: l)) 0 = (b.toNat : Int) := byteAt_bs (mk (b :: l)) 0
theorem numB_mk {l : List UInt8} (h : ¬ (l.length < 1 ∨ 7 < l.length ∨ (1 < l.length ∧ byteAt (mk l) 0 = 48))) : numB (mk l) = (match numV l 0 with | some n => if 1000000 < n then (0, false) else (n, true) | none => (0, false)) := by
  unfold numB
  rw [mk_size, if_neg h, numG_eq l.length 0 0 (by rw [mk_size]; omega), bs_mk, List.drop_zero]
  rfl
theorem ten20 {n : Nat} (h : n ≤ 1000000) : n < 10 ^ 20 := Nat.lt_of_le_of_lt h (by decide)
theorem num_dg {n : Nat} (h : n ≤ 1000000) : numB (mk (dg 20 n)) = ((n : Int), true) := by
  have h1 : 1 ≤ (dg 20 n).length := dg_pos 19 n
  have h2 := dg_length 20 6 n (Nat.lt_of_le_of_lt h (by decide))
  have h3 : ¬ (1 < (dg 20 n).length ∧ byteAt (mk (dg 20 n)) 0 = 48) := by
    rintro ⟨g1, g2⟩
    have h10 : 1 ≤ n := by
      rcases Nat.eq_zero_or_pos n with rfl | h
      · exact absurd g1 (by decide)
      · exact h
    obtain ⟨b, l, e, hb⟩ := dg_head 20 n h10 (ten20 h)
    rw [e, byte0] at g2
    omega
  rw [numB_mk (by omega), numV_dg 20 n (ten20 h)]
  show (if (1000000 : Int) < (n : Int) then _ else _) = _
  rw [if_neg (by omega)]
theorem dec_dg : ∀ (f n : Nat), n < 10 ^ f → 1 ≤ f → Lib.decDigits n = dg f n
  | 0, n, _, h => absurd h (by omega)
  | f + 1, n, h, _ => by
    rw [Lib.decDigits, dg]
    by_cases h1 : n < 10
    · rw [dif_pos h1, if_pos (by omega)]
      congr 1
      unfold dB
      rw [show n % 10 = n by omega]
    · have h3 : 1 ≤ f := by
        rcases Nat.eq_zero_or_pos f with rfl | h
        · simp at h; omega
        · exact h
      rw [dif_neg h1, if_neg (by omega), dec_dg f (n / 10) (by rw [Nat.pow_succ] at h; omega) h3]
      rfl
theorem itoa_dg {n : Int} (h0 : 0 ≤ n) (h1 : n ≤ 1000000) : itoaB n = mk (dg 20 n.toNat) := by
  show (⟨(Lib.itoa n).toArray⟩ : ByteArray) = _
  unfold Lib.itoa
  rw [if_neg (by omega), dec_dg 20 n.toNat (ten20 (by omega)) (by decide)]
  rfl

/-! ### a row of plain words -/

def Plain (w : ByteArray) : Prop := (∀ b ∈ bs w, 45 ≤ (b.toNat : Int) ∧ (b.toNat : Int) ≤ 122) ∧ 1 ≤ w.size ∧ w.size ≤ 12
theorem nameC_in {c : Int} (h : nameC c = true) : 45 ≤ c ∧ c ≤ 122 := by
  unfold nameC at h
  simp only [Bool.or_eq_true, Bool.and_eq_true, decide_eq_true_eq, beq_iff_eq] at h
  omega
theorem name_all {w : ByteArray} (h : nameB w = true) : ((bs w).all fun b => nameC (b.toNat : Int)) = true ∧ 1 ≤ w.size ∧ w.size ≤ 12 ∧ (w.toList == dashB.toList) = false := by
  unfold nameB at h
  rw [allB_eq w.size 0 (by omega), List.drop_zero] at h
  simp only [Bool.and_eq_true, decide_eq_true_eq, Bool.not_eq_true'] at h
  exact h
theorem name_plain {w : ByteArray} (h : nameB w = true) : Plain w := by
  obtain ⟨h1, h2, h3, _⟩ := name_all h
  exact ⟨fun b hb => nameC_in (List.all_eq_true.1 h1 b hb), h2, h3⟩
theorem num_plain {n : Int} (h0 : 0 ≤ n) (h1 : n ≤ 1000000) : Plain (itoaB n) := by
  rw [itoa_dg h0 h1]
  refine ⟨fun b hb => ?_, ?_, ?_⟩
  · rw [bs_mk] at hb
    have := dg_digit _ _ b hb
    omega
  · rw [mk_size]; exact dg_pos 19 _
  · rw [mk_size]
    have := dg_length 20 6 n.toNat (Nat.lt_of_le_of_lt (by omega : n.toNat ≤ 1000000) (by decide))
    omega

def Names (W : List ByteArray) : Prop := ∀ w ∈ W, Plain w

theorem row_bytes : ∀ (W : List ByteArray), Names W → ∀ b ∈ bs (joinT W), (b.toNat : Int) = 32 ∨ (45 ≤ (b.toNat : Int) ∧ (b.toNat : Int) ≤ 122)
  | [], _, b, hb => by cases hb
  | w :: W, h, b, hb => by
    have e : bs (joinT (w :: W)) = 32 :: (bs w ++ bs (joinT W)) := by
      show bs (((⟨#[32]⟩ : ByteArray) ++ w) ++ joinT W) = _
      rw [bs_append, bs_append]; rfl
    rw [e] at hb
    rcases List.mem_cons.1 hb with rfl | hb
    · exact .inl rfl
    · rcases List.mem_append.1 hb with hb | hb
      · exact .inr ((h w (List.mem_cons_self ..)).1 b hb)
      · exact row_bytes W (fun v hv => h v (List.mem_cons_of_mem _ hv)) b hb
theorem row_bytesW {W : List ByteArray} (h : Names W) : ∀ b ∈ bs (joinW W), (b.toNat : Int) = 32 ∨ (45 ≤ (b.toNat : Int) ∧ (b.toNat : Int) ≤ 122) := by
  cases W with
  | nil => intro b hb; cases hb
  | cons w W =>
    intro b hb
    have e : bs (joinW (w :: W)) = bs w ++ bs (joinT W) := bs_append _ _
    rw [e] at hb
    rcases List.mem_append.1 hb with hb | hb
    · exact .inr ((h w (List.mem_cons_self ..)).1 b hb)
    · exact row_bytes W (fun v hv => h v (List.mem_cons_of_mem _ hv)) b hb
theorem row_len : ∀ (W : List ByteArray), Names W → (joinT W).size ≤ 13 * W.length
  | [], _ => Nat.le_refl _
  | w :: W, h => by
    have ih := row_len W fun v hv => h v (List.mem_cons_of_mem _ hv)
    have hw := (h w (List.mem_cons_self ..)).2.2
    have e : (joinT (w :: W)).size = 1 + w.size + (joinT W).size := by
      show (((⟨#[32]⟩ : ByteArray) ++ w) ++ joinT W).size = _
      rw [ByteArray.size_append, ByteArray.size_append]; rfl
    rw [e]; simp; omega
theorem row_lenW {W : List ByteArray} (h : Names W) : (joinW W).size ≤ 13 * W.length := by
  cases W with
  | nil => exact Nat.le_refl _
  | cons w W =>
    have ih := row_len W fun v hv => h v (List.mem_cons_of_mem _ hv)
    have hw := (h w (List.mem_cons_self ..)).2.2
    show (w ++ joinT W).size ≤ _
    rw [ByteArray.size_append]; simp; omega
theorem spl_row : ∀ (W : List ByteArray) (w : ByteArray), Names (w :: W) → spl 32 (bs w ++ bs (joinT W)) = bs w :: W.map bs
  | [], w, h => by
    have e : bs (joinT []) = [] := rfl
    rw [e, List.append_nil]
    exact spl_none fun b hb => by have := (h w (List.mem_cons_self ..)).1 b hb; omega
  | v :: W, w, h => by
    have e : bs (joinT (v :: W)) = 32 :: (bs v ++ bs (joinT W)) := by
      show bs (((⟨#[32]⟩ : ByteArray) ++ v) ++ joinT W) = _
      rw [bs_append, bs_append]; rfl
    rw [e, spl_app (fun b hb => by have := (h w (List.mem_cons_self ..)).1 b hb; omega) (by decide), spl_row W v fun z hz => h z (List.mem_cons_of_mem _ hz)]
    rfl
theorem full_words : ∀ (W : List ByteArray), Names W → (W.map bs).filter (fun x => !x.isEmpty) = W.map bs := fun W h => by
  rw [List.filter_eq_self]
  intro x hx
  obtain ⟨v, hv, rfl⟩ := List.mem_map.1 hx
  have h1 := (h v hv).2.1
  rw [← bs_length] at h1
  cases hq : bs v with
  | nil => rw [hq] at h1; simp at h1
  | cons a l => rfl
theorem mk_map (W : List ByteArray) : (W.map bs).map mk = W := by
  rw [List.map_map]
  have : (mk ∘ bs) = id := by funext z; exact mk_bs z
  rw [this, List.map_id]
theorem no_note {l : List UInt8} (h : ∀ b ∈ l, (b.toNat : Int) = 32 ∨ (45 ≤ (b.toNat : Int) ∧ (b.toNat : Int) ≤ 122)) : l.takeWhile (· != 35) = l := takeWhile_all fun b hm => by
  have := h b hm
  have h : b ≠ 35 := fun e => by
    subst e
    have : ((35 : UInt8).toNat : Int) = 35 := rfl
    omega
  simpa using h
theorem wl_row {W : List ByteArray} (hW : W ≠ []) (h : Names W) : (wl (bs (joinW W))).map mk = W := by
  unfold wl
  rw [no_note (row_bytesW h)]
  cases W with
  | nil => exact absurd rfl hW
  | cons w W =>
    have e : bs (joinW (w :: W)) = bs w ++ bs (joinT W) := bs_append _ _
    have hf := full_words (w :: W) h
    rw [List.map_cons] at hf
    rw [e, spl_row W w h, hf]
    exact mk_map (w :: W)
theorem ml_in {l : List UInt8} (h : ∀ b ∈ l, (b.toNat : Int) = 32 ∨ (45 ≤ (b.toNat : Int) ∧ (b.toNat : Int) ≤ 122)) (hl : l.length ≤ 200) : ml l = true := by
  unfold ml
  rw [List.all_eq_true.2 fun b hm => by
    have := h b hm
    unfold okB
    rw [dec_t (by omega), dec_t (by omega)]; rfl, dec_t hl]
  rfl
theorem ml_row {W : List ByteArray} (h : Names W) (hl : W.length ≤ 8) : ml (bs (joinW W)) = true :=
  ml_in (row_bytesW h) (by have := row_lenW h; rw [bs_length]; omega)

/-- Rows with their numbers. -/
def numb : Nat → List (List ByteArray) → List Ln
  | _, [] => []
  | i, r :: R => ((i : Int) + 1, r) :: numb (i + 1) R
theorem numb_app : ∀ (R S : List (List ByteArray)) (i : Nat), numb i (R ++ S) = numb i R ++ numb (i + R.length) S
  | [], S, i => rfl
  | q :: R, S, i => by
    show _ :: numb (i + 1) (R ++ S) = _
    rw [numb_app R S (i + 1), show i + 1 + R.length = i + (q :: R).length by simp; omega]
    rfl
theorem numb_length : ∀ (R : List (List ByteArray)) (i : Nat), (numb i R).length = R.length
  | [], _ => rfl
  | q :: R, i => by show (numb (i + 1) R).length + 1 = _; rw [numb_length R]; rfl

def Row (W : List ByteArray) : Prop := W ≠ [] ∧ W.length ≤ 8 ∧ Names W

/-- Rows as a text. -/
def txt : List (List ByteArray) → List UInt8
  | [] => []
  | r :: R => bs (joinW r) ++ 10 :: txt R
theorem txt_app : ∀ (R S : List (List ByteArray)), txt (R ++ S) = txt R ++ txt S
  | [], S => rfl
  | r :: R, S => by show bs (joinW r) ++ 10 :: txt (R ++ S) = (bs (joinW r) ++ 10 :: txt R) ++ txt S; rw [txt_app R S]; simp
theorem spl_rows : ∀ (R : List (List ByteArray)) (u : List UInt8), (∀ r ∈ R, Row r) → spl 10 (txt R ++ u) = R.map (fun r => bs (joinW r)) ++ spl 10 u
  | [], u, _ => rfl
  | r :: R, u, h => by
    have hr := h r (List.mem_cons_self ..)
    show spl 10 ((bs (joinW r) ++ 10 :: txt R) ++ u) = _
    rw [List.append_assoc, List.cons_append, spl_app (fun b hb => by have := row_bytesW hr.2.2 b hb; omega) (by decide), spl_rows R u fun q hq => h q (List.mem_cons_of_mem _ hq)]
    rfl
theorem sg_rows : ∀ (R : List (List ByteArray)) (i : Nat) (out : List Ln) (rest : List (List UInt8)), (∀ r ∈ R, Row r) → sg (R.map (fun r => bs (joinW r)) ++ rest) i out = sg rest (i + R.length) (out ++ numb i R)
  | [], i, out, rest, _ => by rw [show numb i [] = [] from rfl, List.append_nil]; rfl
  | r :: R, i, out, rest, h => by
    have hr := h r (List.mem_cons_self ..)
    have hw := wl_row hr.1 hr.2.2
    have hl : (wl (bs (joinW r))).length ≠ 0 := by
      have := congrArg List.length hw
      rw [List.length_map] at this
      rw [this]
      have := hr.1
      cases r with
      | nil => exact absurd rfl this
      | cons a l => simp
    rw [List.map_cons, List.cons_append, sg_good (ml_row hr.2.2 hr.2.1) hl, hw, sg_rows R (i + 1) _ rest fun q hq => h q (List.mem_cons_of_mem _ hq), List.append_assoc, show i + 1 + R.length = i + (r :: R).length by simp; omega]
    rfl
theorem txt_len : ∀ {R : List (List ByteArray)}, (∀ r ∈ R, Row r) → (txt R).length ≤ 105 * R.length
  | [], _ => Nat.le_refl _
  | r :: R, h => by
    have ih := txt_len (R := R) fun q hq => h q (List.mem_cons_of_mem _ hq)
    have hr := h r (List.mem_cons_self ..)
    have h1 := row_lenW hr.2.2
    have h2 := hr.2.1
    show (bs (joinW r) ++ 10 :: txt R).length ≤ _
    rw [List.length_append, bs_length, List.length_cons, List.length_cons]
    omega
/-- A text of rows, and what is behind. -/
theorem split_rows {R : List (List ByteArray)} {s : ByteArray} {u : List UInt8} (h : ∀ r ∈ R, Row r) (hs : s.size ≤ 4000) (e : bs s = txt R ++ u) : splitL s = sg (spl 10 u) R.length (numb 0 R) := by
  rw [splitL_eq hs, e, spl_rows R u h, sg_rows R 0 [] _ h, Nat.zero_add, List.nil_append]

/-! ### fields -/

abbrev nth (n : List Int) (i : Nat) : Int := rdEl (.int .i64) n i
def loR (i : Nat) : Int := (rdEl TRow rowsL i).2.1
def hiR (i : Nat) : Int := (rdEl TRow rowsL i).2.2.1
/-- Numbers and a zone that may be. -/
structure Good (n : List Int) (z : ByteArray) : Prop where
  len : n.length = 23
  le : ∀ i, i < 23 → loR i ≤ nth n i ∧ nth n i ≤ hiR i
  zone : zoneB z = true

def put (N : List Int) (Z : ByteArray) (s : List Int × ByteArray) (i : Nat) : List Int × ByteArray := (s.1.set i (nth N i), if i = 21 then Z else s.2)
noncomputable def rowI (N : List Int) (Z : ByteArray) (i : Nat) : List ByteArray := [(rdEl TRow rowsL i).1, valB N Z i]

theorem rowAt_all : ((List.range 23).all fun i => rowAt (rdEl TRow rowsL i).1 == some i) = true := by kernel_rfl
theorem rowAt_row {i : Nat} (h : i < 23) : rowAt (rdEl TRow rowsL i).1 = some i := by
  have := List.all_eq_true.1 rowAt_all i (List.mem_range.2 h)
  simpa using this
theorem name_rows : (rowsL.all fun r => nameB r.1) = true := by kernel_rfl
theorem bound_rows : ((List.range 23).all fun i => decide (0 ≤ loR i ∧ hiR i ≤ 10000)) = true := by kernel_rfl
theorem bound_row {i : Nat} (h : i < 23) : 0 ≤ loR i ∧ hiR i ≤ 10000 := by
  have := List.all_eq_true.1 bound_rows i (List.mem_range.2 h)
  simpa using this
theorem row_name {i : Nat} (h : i < 23) : Plain (rdEl TRow rowsL i).1 := by
  refine name_plain (List.all_eq_true.1 name_rows _ ?_)
  have : (rowsL[i]?).isSome := by rw [List.getElem?_eq_getElem (show i < rowsL.length from h)]; rfl
  unfold rdEl
  rw [List.getD_eq_getElem?_getD, List.getElem?_eq_getElem (show i < rowsL.length from h)]
  exact List.getElem_mem ..

theorem zone_cases {z : ByteArray} (h : zoneB z = true) : z = ⟨#[]⟩ ∨ nameB z = true := by
  unfold zoneB at h
  rcases Bool.or_eq_true_iff.1 h with h | h
  · refine .inl ?_
    have : bs z = [] := by
      rw [toList_bs, toList_bs] at h
      exact eq_of_beq h
    rw [← mk_bs z, this]; rfl
  · exact .inr h

theorem isB_eq {z : ByteArray} {l : List UInt8} : isB l z = (bs z == l) := by unfold isB; rw [toList_bs]

/-- A field's word is read as it was. -/
theorem set_back {N n : List Int} {Z z : ByteArray} (h : Good N Z) {i : Nat} (hi : i < 23) (hn : n.length = 23) (h21 : nth n 21 = 0) : setN n z i (valB N Z i) = (true, put N Z (n, z) i) := by
  have hb := h.le i hi
  have hb2 := bound_row hi
  unfold setN valB put
  by_cases i21 : i = 21
  · subst i21
    have e0 : nth N 21 = 0 := by
      have : loR 21 = 0 := rfl
      have : hiR 21 = 0 := rfl
      omega
    have e1 : n.set 21 (nth N 21) = n := by
      rw [e0, ← h21]
      unfold nth rdEl
      rw [List.getD_eq_getElem?_getD, List.getElem?_eq_getElem (show 21 < n.length by omega)]
      exact List.set_getElem_self ..
    rw [if_pos rfl, if_pos rfl]
    show _ = (true, n.set 21 (nth N 21), Z)
    rw [e1]
    rcases zone_cases h.zone with rfl | hz
    · rw [if_pos (show (⟨#[]⟩ : ByteArray).size = 0 from rfl), show isB [45] (⟨#[45]⟩ : ByteArray) = true from by kernel_rfl]; rfl
    · obtain ⟨_, a1, _, a2⟩ := name_all hz
      rw [if_neg (by omega)]
      have : isB [45] Z = false := by
        rw [toList_bs, toList_bs] at a2
        rw [isB_eq]; exact a2
      rw [this, hz]; rfl
  · rw [if_neg i21, if_neg i21, if_neg i21]
    by_cases i20 : i = 20
    · subst i20
      rw [if_pos rfl, if_pos rfl]
      have e1 : loR 20 = 1 := rfl
      have e2 : hiR 20 = 3 := rfl
      rcases (by omega : nth N 20 = 1 ∨ nth N 20 = 2 ∨ nth N 20 = 3) with e | e | e
      all_goals
        show (decide (wordI (rdEl .str polL (nth N 20 - 1).toNat) polL 0 > 0), n.set 20 (wordI (rdEl .str polL (nth N 20 - 1).toNat) polL 0), z) = _
        rw [e]
        kernel_rfl
    · rw [if_neg i20, if_neg i20]
      by_cases ib : i = 15 ∨ i = 22
      · rw [if_pos ib, if_pos ib]
        have e1 : loR i = 0 ∧ hiR i = 1 := by rcases ib with rfl | rfl <;> exact ⟨rfl, rfl⟩
        show (yesB (yesW (nth N i == 1)) || noB (yesW (nth N i == 1)), n.set i (bitI (yesB (yesW (nth N i == 1)))), z) = (true, n.set i (nth N i), z)
        rcases (by omega : nth N i = 0 ∨ nth N i = 1) with e | e
        · rw [e]; kernel_rfl
        · rw [e]; kernel_rfl
      · rw [if_neg ib, if_neg ib]
        have e : numB (itoaB (nth N i)) = (nth N i, true) := by
          rw [itoa_dg (by omega) (by omega), num_dg (by omega)]
          rw [Int.toNat_of_nonneg (by omega)]
        show ((numB (itoaB (nth N i))).2 && (decide (loR i ≤ (numB (itoaB (nth N i))).1) && decide ((numB (itoaB (nth N i))).1 ≤ hiR i)), n.set i (numB (itoaB (nth N i))).1, z) = _
        rw [e]
        show (true && (decide (loR i ≤ nth N i) && decide (nth N i ≤ hiR i)), n.set i (nth N i), z) = _
        rw [dec_t hb.1, dec_t hb.2]
        rfl

theorem val_plain {N : List Int} {Z : ByteArray} (h : Good N Z) {i : Nat} (hi : i < 23) : Plain (valB N Z i) := by
  have hb := h.le i hi
  have hb2 := bound_row hi
  unfold valB
  by_cases i21 : i = 21
  · rw [if_pos i21]
    rcases zone_cases h.zone with rfl | hz
    · rw [if_pos (show (⟨#[]⟩ : ByteArray).size = 0 from rfl)]
      exact ⟨fun b hb => by cases List.mem_singleton.1 hb; decide, by decide, by decide⟩
    · obtain ⟨_, a1, _, a2⟩ := name_all hz
      rw [if_neg (by omega)]
      exact name_plain hz
  · rw [if_neg i21]
    by_cases i20 : i = 20
    · subst i20
      rw [if_pos rfl]
      have e1 : loR 20 = 1 := rfl
      have e2 : hiR 20 = 3 := rfl
      rcases (by omega : nth N 20 = 1 ∨ nth N 20 = 2 ∨ nth N 20 = 3) with e | e | e
      all_goals
        show Plain (rdEl .str polL (nth N 20 - 1).toNat)
        rw [e]
        exact name_plain (by kernel_rfl)
    · rw [if_neg i20]
      by_cases ib : i = 15 ∨ i = 22
      · rw [if_pos ib]
        show Plain (yesW (nth N i == 1))
        cases nth N i == 1 <;> exact name_plain (by kernel_rfl)
      · rw [if_neg ib]
        show Plain (itoaB (nth N i))
        exact num_plain (by omega) (by omega)
theorem row_plain {N : List Int} {Z : ByteArray} (h : Good N Z) {i : Nat} (hi : i < 23) : Row (rowI N Z i) :=
  ⟨List.cons_ne_nil _ _, by show 2 ≤ 8; decide, fun w hw => by
    rcases List.mem_cons.1 hw with rfl | hw
    · exact row_name hi
    · rw [List.mem_singleton.1 hw]; exact val_plain h hi⟩

theorem put_len {N : List Int} {Z : ByteArray} {s : List Int × ByteArray} {i : Nat} : (put N Z s i).1.length = s.1.length := by
  unfold put; rw [List.length_set]
theorem nth_set {n : List Int} {i j : Nat} {v : Int} (hi : i < n.length) : nth (n.set i v) j = if j = i then v else nth n j := by
  unfold nth rdEl
  rw [List.getD_eq_getElem?_getD, List.getD_eq_getElem?_getD, List.getElem?_set]
  by_cases h : i = j
  · subst h; rw [if_pos rfl, if_pos rfl, if_pos hi]; rfl
  · rw [if_neg h, if_neg (fun e => h e.symm)]
theorem nth21 {N : List Int} {Z : ByteArray} (h : Good N Z) : nth N 21 = 0 := by
  have := h.le 21 (by decide)
  have : loR 21 = 0 := rfl
  have : hiR 21 = 0 := rfl
  omega
theorem put_nth {N : List Int} {Z : ByteArray} {s : List Int × ByteArray} {i j : Nat} (hs : s.1.length = 23) (hi : i < 23) : nth (put N Z s i).1 j = if j = i then nth N i else nth s.1 j := nth_set (by omega)

/-- Lines of fields, each once, are gone through. -/
theorem parse_fields {N : List Int} {Z : ByteArray} (h : Good N Z) (more : List Ln) : ∀ (I : List Nat) (n : List Int) (z : ByteArray) (seen : List Nat) (k : Nat), I.Nodup → (∀ i ∈ I, i < 23 ∧ i ∉ seen) → n.length = 23 → nth n 21 = 0 →
    parseG (numb k (I.map (rowI N Z)) ++ more) n z seen = parseG more (I.foldl (put N Z) (n, z)).1 (I.foldl (put N Z) (n, z)).2 (I.reverse ++ seen)
  | [], n, z, seen, k, _, _, _, _ => rfl
  | i :: I, n, z, seen, k, hd, hI, hn, h21 => by
    have hi := hI i (List.mem_cons_self ..)
    have hd := List.nodup_cons.1 hd
    have e := set_back (z := z) h hi.1 hn h21
    have step : parseG (numb k ((i :: I).map (rowI N Z)) ++ more) n z seen = parseG (numb (k + 1) (I.map (rowI N Z)) ++ more) (put N Z (n, z) i).1 (put N Z (n, z) i).2 (i :: seen) := by
      show parseG (((k : Int) + 1, [(rdEl TRow rowsL i).1, valB N Z i]) :: (numb (k + 1) (I.map (rowI N Z)) ++ more)) n z seen = _
      rw [parseG]
      simp only [rowAt_row hi.1, if_neg hi.2, e, if_true]
    rw [step, parse_fields h more I _ _ (i :: seen) (k + 1) hd.2 (fun j hj => ⟨(hI j (List.mem_cons_of_mem _ hj)).1, fun hm => by
      rcases List.mem_cons.1 hm with rfl | hm
      · exact hd.1 hj
      · exact (hI j (List.mem_cons_of_mem _ hj)).2 hm⟩) (by rw [put_len]; exact hn) (by
        rw [put_nth hn hi.1]
        split
        · rename_i e2; rw [← e2]; exact nth21 h
        · exact h21)]
    rw [List.reverse_cons, List.append_assoc]
    rfl

theorem fold_len {N : List Int} {Z : ByteArray} : ∀ (I : List Nat) (s : List Int × ByteArray), (I.foldl (put N Z) s).1.length = s.1.length
  | [], _ => rfl
  | i :: I, s => by rw [List.foldl_cons, fold_len I, put_len]
theorem fold_nth {N : List Int} {Z : ByteArray} (j : Nat) : ∀ (I : List Nat) (s : List Int × ByteArray), s.1.length = 23 → (∀ i ∈ I, i < 23) → nth (I.foldl (put N Z) s).1 j = if j ∈ I then nth N j else nth s.1 j
  | [], s, _, _ => by simp
  | i :: I, s, hs, hI => by
    rw [List.foldl_cons, fold_nth j I _ (by rw [put_len]; exact hs) (fun i hi => hI i (List.mem_cons_of_mem _ hi)), put_nth hs (hI i (List.mem_cons_self ..))]
    by_cases h1 : j ∈ I
    · rw [if_pos h1, if_pos (List.mem_cons_of_mem _ h1)]
    · rw [if_neg h1]
      by_cases h2 : j = i
      · subst h2
        rw [if_pos rfl, if_pos (List.mem_cons_self ..)]
      · rw [if_neg h2, if_neg (fun h => by rcases List.mem_cons.1 h with h | h; exact h2 h; exact h1 h)]
theorem fold_zone {N : List Int} {Z : ByteArray} : ∀ (I : List Nat) (s : List Int × ByteArray), (I.foldl (put N Z) s).2 = if 21 ∈ I then Z else s.2
  | [], s => by simp
  | i :: I, s => by
    rw [List.foldl_cons, fold_zone I]
    by_cases h1 : 21 ∈ I
    · rw [if_pos h1, if_pos (List.mem_cons_of_mem _ h1)]
    · rw [if_neg h1]
      by_cases h2 : i = 21
      · subst h2
        rw [if_pos (List.mem_cons_self ..)]
        rfl
      · rw [if_neg (fun h => by rcases List.mem_cons.1 h with h | h; exact h2 h.symm; exact h1 h)]
        show (if i = 21 then Z else s.2) = _
        rw [if_neg h2]
theorem list_ext {n m : List Int} (h1 : n.length = 23) (h2 : m.length = 23) (h : ∀ i, i < 23 → nth n i = nth m i) : n = m := by
  refine List.ext_getElem (by omega) fun i h3 h4 => ?_
  have := h i (by omega)
  unfold nth rdEl at this
  rw [List.getD_eq_getElem?_getD, List.getD_eq_getElem?_getD, List.getElem?_eq_getElem h3, List.getElem?_eq_getElem h4] at this
  exact this
theorem fold_all {N : List Int} {Z : ByteArray} (h : Good N Z) {I : List Nat} {s : List Int × ByteArray} (hs : s.1.length = 23) (hI : ∀ i ∈ I, i < 23) (hall : ∀ i, i < 23 → i ∈ I) : I.foldl (put N Z) s = (N, Z) := by
  have e1 : (I.foldl (put N Z) s).1 = N := list_ext (by rw [fold_len]; exact hs) h.len fun i hi => by rw [fold_nth i I s hs hI, if_pos (hall i hi)]
  have e2 : (I.foldl (put N Z) s).2 = Z := by rw [fold_zone, if_pos (hall 21 (by decide))]
  exact Prod.ext e1 e2

/-! ### configurations -/

theorem made_back (c : El TConfig) : madeC (numsL c) (cZone c) = c := by
  obtain ⟨c0, c1, c2, c3, c4, c5, c6, c7, c8, c9, c10, c11, c12, c13, c14, c15, c16, c17, c18, c19, c20, c21, c22⟩ := c
  cases c15 <;> cases c22 <;> rfl
theorem numsL_len (c : El TConfig) : (numsL c).length = 23 := rfl
theorem bit_back {v : Int} (h0 : 0 ≤ v) (h1 : v ≤ 1) : bitI (v == 1) = v := by
  rcases (by omega : v = 0 ∨ v = 1) with rfl | rfl <;> rfl
theorem nums_made {n : List Int} {z : ByteArray} (h : Good n z) : numsL (madeC n z) = n := by
  have e15 : bitI (nth n 15 == 1) = nth n 15 := bit_back (by have := (h.le 15 (by decide)).1; exact this) (by have := (h.le 15 (by decide)).2; exact this)
  have e22 : bitI (nth n 22 == 1) = nth n 22 := bit_back (by have := (h.le 22 (by decide)).1; exact this) (by have := (h.le 22 (by decide)).2; exact this)
  have e21 := nth21 h
  refine list_ext rfl h.len fun i hi => ?_
  rcases (by omega : i = 0 ∨ i = 1 ∨ i = 2 ∨ i = 3 ∨ i = 4 ∨ i = 5 ∨ i = 6 ∨ i = 7 ∨ i = 8 ∨ i = 9 ∨ i = 10 ∨ i = 11 ∨ i = 12 ∨ i = 13 ∨ i = 14 ∨ i = 15 ∨ i = 16 ∨ i = 17 ∨ i = 18 ∨ i = 19 ∨ i = 20 ∨ i = 21 ∨ i = 22) with rfl | rfl | rfl | rfl | rfl | rfl | rfl | rfl | rfl | rfl | rfl | rfl | rfl | rfl | rfl | rfl | rfl | rfl | rfl | rfl | rfl | rfl | rfl
  all_goals first | rfl | exact e15 | exact e22 | exact e21.symm
theorem zone_made (n : List Int) (z : ByteArray) : cZone (madeC n z) = z := rfl

/-! ### the text -/

theorem line_bytes (N : List Int) (Z : ByteArray) (i : Nat) (r : El TRow) : bs (lineB N Z i r) = bs (joinW [r.1, valB N Z i]) ++ [10] := by
  unfold lineB
  rw [bs_append, bs_append, bs_append]
  show _ = bs (r.1 ++ (((⟨#[32]⟩ : ByteArray) ++ valB N Z i) ++ (⟨#[]⟩ : ByteArray))) ++ [10]
  rw [bs_append, bs_append, bs_append]
  show ((bs r.1 ++ [32]) ++ bs (valB N Z i)) ++ [10] = (bs r.1 ++ (([32] ++ bs (valB N Z i)) ++ [])) ++ [10]
  simp
noncomputable def rowsI (N : List Int) (Z : ByteArray) : List (El TRow) → Nat → List (List ByteArray)
  | [], _ => []
  | r :: l, i => [r.1, valB N Z i] :: rowsI N Z l (i + 1)
theorem text_bytes (N : List Int) (Z : ByteArray) : ∀ (l : List (El TRow)) (i : Nat), bs (textG N Z l i) = txt (rowsI N Z l i)
  | [], _ => rfl
  | r :: l, i => by
    show bs (lineB N Z i r ++ textG N Z l (i + 1)) = bs (joinW [r.1, valB N Z i]) ++ 10 :: txt (rowsI N Z l (i + 1))
    rw [bs_append, line_bytes, text_bytes N Z l (i + 1)]
    simp
theorem text_rows (N : List Int) (Z : ByteArray) : bs (textG N Z rowsL 0) = txt ((List.range 23).map (rowI N Z)) := text_bytes N Z rowsL 0

theorem rows_plain {N : List Int} {Z : ByteArray} (h : Good N Z) {I : List Nat} (hI : ∀ i ∈ I, i < 23) : ∀ r ∈ I.map (rowI N Z), Row r := fun r hr => by
  obtain ⟨i, hi, rfl⟩ := List.mem_map.1 hr
  exact row_plain h (hI i hi)

/-- What rows of fields are read as. -/
theorem parse_rows {N : List Int} {Z : ByteArray} (h : Good N Z) {I : List Nat} (hd : I.Nodup) (hI : ∀ i ∈ I, i < 23) {s : ByteArray} (hs : bs s = txt (I.map (rowI N Z))) (hl : I.length ≤ 30) :
    parseC s = (madeC (I.foldl (put N Z) (numsL defC, ⟨#[]⟩)).1 (I.foldl (put N Z) (numsL defC, ⟨#[]⟩)).2, 0, 0) := by
  have hp := rows_plain h hI
  have hz := txt_len hp
  rw [List.length_map] at hz
  have e : splitL s = (numb 0 (I.map (rowI N Z)), 0, 0) := by
    rw [split_rows (u := []) hp (by rw [← bs_length, hs]; omega) (by rw [List.append_nil]; exact hs)]
    rfl
  have e2 := parse_fields h [] I (numsL defC) ⟨#[]⟩ [] 0 hd (fun i hi => ⟨hI i hi, fun h => by cases h⟩) rfl rfl
  rw [List.append_nil, List.append_nil] at e2
  unfold parseC
  rw [e, if_pos rfl]
  dsimp only
  rw [e2, parseG]
theorem parse_text {N : List Int} {Z : ByteArray} (h : Good N Z) : parseC (textG N Z rowsL 0) = (madeC N Z, 0, 0) := by
  rw [parse_rows h (I := List.range 23) List.nodup_range (fun i hi => List.mem_range.1 hi) (text_rows N Z) (by decide), fold_all h rfl (fun i hi => List.mem_range.1 hi) fun i hi => List.mem_range.2 hi]

end Go.Proofs.YtlakpbfmcnlnbaaDoor
namespace Go.Proofs.YtlakpbfmcnlnbaaDoor
open Go VE

theorem good_may {c : El TConfig} (h : mayC c = true) : Good (numsL c) (cZone c) := by
  have h1 : ((firstL c ++ secondL c).all inR && ((decide (1 ≤ cPolicy c) && decide (cPolicy c ≤ 3)) && zoneB (cZone c))) = true := h
  obtain ⟨a, b⟩ := Bool.and_eq_true_iff.1 h1
  obtain ⟨p, z⟩ := Bool.and_eq_true_iff.1 b
  have r := rows_all c
  rw [a, p] at r
  refine ⟨rfl, fun i hi => ?_, z⟩
  have := List.all_eq_true.1 r i (by simp; omega)
  unfold bR at this
  simp only [Bool.and_eq_true, decide_eq_true_eq] at this
  exact this
theorem may_good {n : List Int} {z : ByteArray} (h : Good n z) : mayC (madeC n z) = true := by
  have r := rows_all (madeC n z)
  have hn := nums_made h
  have e : (List.range' 0 23).all (bR (madeC n z)) = true := List.all_eq_true.2 fun i hi => by
    have hi : i < 23 := by simpa using hi
    have := h.le i hi
    unfold bR
    rw [hn]
    show (decide (loR i ≤ nth n i) && decide (nth n i ≤ hiR i)) = true
    rw [dec_t this.1, dec_t this.2]; rfl
  rw [e] at r
  obtain ⟨a, p⟩ := Bool.and_eq_true_iff.1 r.symm
  show ((firstL (madeC n z) ++ secondL (madeC n z)).all inR && ((decide (1 ≤ cPolicy (madeC n z)) && decide (cPolicy (madeC n z) ≤ 3)) && zoneB z)) = true
  rw [a, p, h.zone]; rfl
theorem text_may {c : El TConfig} (h : mayC c = true) : textC c = textG (numsL c) (cZone c) rowsL 0 := by unfold textC; rw [h]; rfl
theorem parse_may {c : El TConfig} (h : mayC c = true) : parseC (textC c) = (c, 0, 0) := by
  rw [text_may h, parse_text (good_may h), made_back]
theorem range_lt : ∀ i ∈ List.range 23, i < 23 := fun _ h => List.mem_range.1 h
theorem text_bs {c : El TConfig} (h : mayC c = true) : bs (textC c) = txt ((List.range 23).map (rowI (numsL c) (cZone c))) := by rw [text_may h, text_rows]
theorem text_size (c : El TConfig) : (textC c).size ≤ 2415 := by
  cases h : mayC c
  · unfold textC; rw [h]; exact Nat.zero_le _
  · have := txt_len (rows_plain (good_may h) range_lt)
    rw [← text_bs h, bs_length, List.length_map, List.length_range] at this
    exact this
theorem def_good : Good (numsL defC) ⟨#[]⟩ := good_may (c := defC) (by kernel_rfl)
theorem text_inj {c d : El TConfig} (hc : mayC c = true) (hd : mayC d = true) (h : textC c = textC d) : c = d := by
  have h1 := parse_may hc
  rw [h, parse_may hd] at h1
  exact (Prod.mk.inj h1).1.symm

/-! ### whatever is read may be -/

theorem atG_lt (s : ByteArray) : ∀ (l : List (El TRow)) (i k : Nat), atG s l i = some k → k < i + l.length
  | [], i, k, h => by cases h
  | r :: l, i, k, h => by
    unfold atG at h
    cases e : r.1.toList == s.toList
    · rw [e] at h
      have := atG_lt s l (i + 1) k h
      simp; omega
    · rw [e] at h
      cases h
      simp
theorem rowAt_lt {s : ByteArray} {k : Nat} (h : rowAt s = some k) : k < 23 := by
  have := atG_lt s rowsL 0 k h
  have e : rowsL.length = 23 := rfl
  omega
theorem Good.set {n : List Int} {z : ByteArray} (h : Good n z) {i : Nat} {v : Int} (hi : i < 23) (h1 : loR i ≤ v) (h2 : v ≤ hiR i) : Good (n.set i v) z := by
  refine ⟨by rw [List.length_set]; exact h.len, fun j hj => ?_, h.zone⟩
  rw [nth_set (by rw [h.len]; exact hi)]
  split
  · rename_i e; subst e; exact ⟨h1, h2⟩
  · exact h.le j hj
theorem wordI_in (v : ByteArray) : 0 ≤ wordI v polL 0 ∧ wordI v polL 0 ≤ 3 := by
  unfold polL wordI wordI wordI wordI
  generalize ((⟨#[114, 111, 117, 110, 100]⟩ : ByteArray).toList == v.toList) = a
  generalize ((⟨#[108, 101, 97, 115, 116]⟩ : ByteArray).toList == v.toList) = b
  generalize ((⟨#[114, 105, 110, 103]⟩ : ByteArray).toList == v.toList) = c
  cases a <;> cases b <;> cases c <;> decide
theorem set_good {n : List Int} {z : ByteArray} (h : Good n z) {i : Nat} (hi : i < 23) {v : ByteArray} (hok : (setN n z i v).1 = true) : Good (setN n z i v).2.1 (setN n z i v).2.2 := by
  unfold setN at hok ⊢
  by_cases i21 : i = 21
  · subst i21
    rw [if_pos rfl] at hok ⊢
    refine ⟨h.len, h.le, ?_⟩
    show zoneB (if isB [45] v = true then ⟨#[]⟩ else v) = true
    cases e : isB [45] v
    · rw [if_neg (by simp)]
      have hok : (isB [45] v || nameB v) = true := hok
      rw [e] at hok
      unfold zoneB
      rw [show nameB v = true from hok, Bool.or_true]
    · rw [if_pos rfl]; kernel_rfl
  · rw [if_neg i21] at hok ⊢
    by_cases i20 : i = 20
    · subst i20
      rw [if_pos rfl] at hok ⊢
      have hok : decide (wordI v polL 0 > 0) = true := hok
      have hok := of_decide_eq_true hok
      have := wordI_in v
      exact h.set (by decide) (show (1 : Int) ≤ _ by omega) (show _ ≤ (3 : Int) by omega)
    · rw [if_neg i20] at hok ⊢
      by_cases ib : i = 15 ∨ i = 22
      · rw [if_pos ib] at hok ⊢
        have e1 : loR i = 0 ∧ hiR i = 1 := by rcases ib with rfl | rfl <;> exact ⟨rfl, rfl⟩
        refine h.set hi ?_ ?_
        · rw [e1.1]; cases yesB v <;> decide
        · rw [e1.2]; cases yesB v <;> decide
      · rw [if_neg ib] at hok ⊢
        simp only [Bool.and_eq_true, decide_eq_true_eq] at hok
        exact h.set hi hok.2.1 hok.2.2
theorem parseG_good : ∀ (l : List Ln) (n : List Int) (z : ByteArray) (seen : List Nat), Good n z →
    (∃ r, parseG l n z seen = (some r, 0) ∧ Good r.1 r.2) ∨ (∃ x ∈ l, parseG l n z seen = (none, x.1))
  | [], n, z, seen, h => .inl ⟨(n, z), rfl, h⟩
  | (no, w) :: l, n, z, seen, h => by
    rw [parseG]
    split
    · rename_i a v hw
      split
      · exact .inr ⟨_, List.mem_cons_self .., rfl⟩
      · rename_i i hi
        split
        · exact .inr ⟨_, List.mem_cons_self .., rfl⟩
        · split
          · rename_i hok
            rcases parseG_good l _ _ (i :: seen) (set_good h (rowAt_lt hi) hok) with g | ⟨x, hx, g⟩
            · exact .inl g
            · exact .inr ⟨x, List.mem_cons_of_mem _ hx, g⟩
          · exact .inr ⟨_, List.mem_cons_self .., rfl⟩
    · exact .inr ⟨_, List.mem_cons_self .., rfl⟩
theorem splitG_pos : ∀ (l : List ByteArray) (i : Nat) (out : List Ln), (∀ x ∈ out, 0 < x.1) →
    ((splitG l i out).2.2 = 0 ∨ (splitG l i out).2.2 = 2) ∧ 0 ≤ (splitG l i out).2.1 ∧ (∀ x ∈ (splitG l i out).1, 0 < x.1)
  | [], i, out, h => ⟨.inl rfl, Int.le_refl _, h⟩
  | x :: l, i, out, h => by
    rw [splitG]
    split
    · refine splitG_pos l (i + 1) _ fun y hy => ?_
      split at hy
      · exact h y hy
      · rcases List.mem_append.1 hy with hy | hy
        · exact h y hy
        · rw [List.mem_singleton.1 hy]
          show (0 : Int) < (i : Int) + 1
          omega
    · exact ⟨.inr rfl, by show (0 : Int) ≤ (i : Int) + 1; omega, fun y hy => by cases hy⟩
theorem splitL_pos (s : ByteArray) : ((splitL s).2.2 = 0 ∨ (splitL s).2.2 = 2) ∧ 0 ≤ (splitL s).2.1 ∧ (∀ x ∈ (splitL s).1, 0 < x.1) := by
  unfold splitL
  split
  · exact ⟨.inr rfl, Int.le_refl _, fun y hy => by cases hy⟩
  · exact splitG_pos _ 0 [] fun x hx => by cases hx
/-- What is read: a configuration that may be, or an error. -/
theorem parse_any (s : ByteArray) : (∃ c, parseC s = (c, 0, 0) ∧ mayC c = true) ∨ (∃ k, parseC s = (zeroC, k, 2) ∧ 0 ≤ k) := by
  obtain ⟨h1, h2, h3⟩ := splitL_pos s
  unfold parseC
  by_cases e : (splitL s).2.2 = 0
  · rw [if_pos e]
    rcases parseG_good (splitL s).1 (numsL defC) ⟨#[]⟩ [] def_good with ⟨r, g, hr⟩ | ⟨x, hx, g⟩
    · rw [g]
      exact .inl ⟨_, rfl, may_good hr⟩
    · rw [g]
      exact .inr ⟨_, rfl, Int.le_of_lt (h3 x hx)⟩
  · rw [if_neg e, h1.resolve_left e]
    exact .inr ⟨_, rfl, h2⟩

/-! ### a line that is wrong -/

/-- Words, a blank behind each. -/
def wt : List ByteArray → List UInt8
  | [] => []
  | w :: l => bs w ++ 32 :: wt l
theorem wt_snoc : ∀ (l : List ByteArray) (w : ByteArray), wt (l ++ [w]) = wt l ++ (bs w ++ [32])
  | [], w => rfl
  | x :: l, w => by
    show bs x ++ 32 :: wt (l ++ [w]) = (bs x ++ 32 :: wt l) ++ _
    rw [wt_snoc l w]; simp
theorem wt_bytes : ∀ (W : List ByteArray), Names W → ∀ b ∈ wt W, (b.toNat : Int) = 32 ∨ (45 ≤ (b.toNat : Int) ∧ (b.toNat : Int) ≤ 122)
  | [], _, b, hb => by cases hb
  | w :: W, h, b, hb => by
    rcases List.mem_append.1 hb with hb | hb
    · exact .inr ((h w (List.mem_cons_self ..)).1 b hb)
    · rcases List.mem_cons.1 hb with rfl | hb
      · exact .inl rfl
      · exact wt_bytes W (fun v hv => h v (List.mem_cons_of_mem _ hv)) b hb
theorem wt_len : ∀ (W : List ByteArray), Names W → (wt W).length ≤ 13 * W.length
  | [], _ => Nat.le_refl _
  | w :: W, h => by
    have ih := wt_len W fun v hv => h v (List.mem_cons_of_mem _ hv)
    have hw := (h w (List.mem_cons_self ..)).2.2
    show (bs w ++ 32 :: wt W).length ≤ _
    rw [List.length_append, bs_length, List.length_cons, List.length_cons]; omega
theorem spl_wt : ∀ (W : List ByteArray), Names W → spl 32 (wt W) = W.map bs ++ [[]]
  | [], _ => rfl
  | w :: W, h => by
    show spl 32 (bs w ++ 32 :: wt W) = _
    rw [spl_app (fun b hb => by have := (h w (List.mem_cons_self ..)).1 b hb; omega) (by decide), spl_wt W fun v hv => h v (List.mem_cons_of_mem _ hv)]
    rfl
theorem wl_wt {W : List ByteArray} (h : Names W) : (wl (wt W)).map mk = W := by
  unfold wl
  rw [no_note (wt_bytes W h), spl_wt W h, List.filter_append, full_words W h, List.map_append]
  show (W.map bs).map mk ++ [] = W
  rw [List.append_nil, mk_map]
theorem spl_part {c : Int} : ∀ {l x : List UInt8}, x ∈ spl c l → (∀ b ∈ x, b ∈ l ∧ ¬ (b.toNat : Int) = c) ∧ x.length ≤ l.length
  | [], x, h => by
    rw [show spl c [] = [[]] from rfl] at h
    rw [List.mem_singleton.1 h]
    exact ⟨fun b hb => (by cases hb), Nat.le_refl _⟩
  | a :: l, x, h => by
    by_cases ha : (a.toNat : Int) = c
    · rw [spl_sep ha] at h
      rcases List.mem_cons.1 h with rfl | h
      · exact ⟨fun b hb => (by cases hb), Nat.zero_le _⟩
      · obtain ⟨h1, h2⟩ := spl_part h
        exact ⟨fun b hb => ⟨List.mem_cons_of_mem _ (h1 b hb).1, (h1 b hb).2⟩, by simp; omega⟩
    · obtain ⟨y, r, e⟩ := spl_cons c l
      rw [spl_on ha e] at h
      rcases List.mem_cons.1 h with rfl | h
      · obtain ⟨h1, h2⟩ := spl_part (c := c) (l := l) (x := y) (by rw [e]; exact List.mem_cons_self ..)
        refine ⟨fun b hb => ?_, by simp; omega⟩
        rcases List.mem_cons.1 hb with rfl | hb
        · exact ⟨List.mem_cons_self .., ha⟩
        · exact ⟨List.mem_cons_of_mem _ (h1 b hb).1, (h1 b hb).2⟩
      · obtain ⟨h1, h2⟩ := spl_part (c := c) (l := l) (x := x) (by rw [e]; exact List.mem_cons_of_mem _ h)
        exact ⟨fun b hb => ⟨List.mem_cons_of_mem _ (h1 b hb).1, (h1 b hb).2⟩, by simp; omega⟩
theorem sg_keep : ∀ (l : List (List UInt8)) (i : Nat) (out : List Ln), (∀ x ∈ l, ml x = true) → ∃ m, sg l i out = (out ++ m, 0, 0)
  | [], i, out, _ => ⟨[], by rw [List.append_nil]; rfl⟩
  | x :: l, i, out, h => by
    rw [sg, if_pos (h x (List.mem_cons_self ..))]
    split
    · exact sg_keep l (i + 1) out fun y hy => h y (List.mem_cons_of_mem _ hy)
    · obtain ⟨m, e⟩ := sg_keep l (i + 1) (out ++ [((i : Int) + 1, (wl x).map mk)]) fun y hy => h y (List.mem_cons_of_mem _ hy)
      exact ⟨_ :: m, by rw [e, List.append_assoc]; rfl⟩
theorem parse_wrong {N : List Int} {Z : ByteArray} (h : Good N Z) {I : List Nat} (hd : I.Nodup) (hI : ∀ i ∈ I, i < 23) (hl : I.length ≤ 23) {W : List ByteArray} (hW : Names W) (hw : W.length ≤ 6) (h0 : W ≠ []) (h2 : W.length ≠ 2) {s more : ByteArray}
    (hm : more.size ≤ 100) (hb : ∀ b ∈ bs more, (b.toNat : Int) = 10 ∨ (32 ≤ (b.toNat : Int) ∧ (b.toNat : Int) ≤ 126)) (hs : bs s = txt (I.map (rowI N Z)) ++ (wt W ++ 10 :: bs more)) :
    parseC s = (zeroC, (I.length : Int) + 1, 2) := by
  have hp := rows_plain h hI
  have hz := txt_len hp
  have hz2 := wt_len W hW
  rw [List.length_map] at hz
  have hsz : s.size ≤ 4000 := by
    rw [← bs_length, hs, List.length_append, List.length_append, List.length_cons, bs_length]; omega
  have hwl := wl_wt hW
  have hne : (wl (wt W)).length ≠ 0 := by
    have := congrArg List.length hwl
    rw [List.length_map] at this
    rw [this]
    cases W with
    | nil => exact absurd rfl h0
    | cons a l => simp
  have hmore : ∀ x ∈ spl 10 (bs more), ml x = true := fun x hx => by
    obtain ⟨h1, h2⟩ := spl_part hx
    rw [bs_length] at h2
    unfold ml
    rw [List.all_eq_true.2 fun b hm => by
      have := h1 b hm
      have := hb b this.1
      unfold okB
      rw [dec_t (by omega), dec_t (by omega)]; rfl, dec_t (by omega)]
    rfl
  obtain ⟨m, e⟩ := sg_keep (spl 10 (bs more)) (I.length + 1) (numb 0 (I.map (rowI N Z)) ++ [((I.length : Int) + 1, W)]) hmore
  have e1 : splitL s = (numb 0 (I.map (rowI N Z)) ++ (((I.length : Int) + 1, W) :: m), 0, 0) := by
    rw [split_rows hp hsz hs, spl_app (fun b hb => by have := wt_bytes W hW b hb; omega) (by decide), sg_good (ml_in (wt_bytes W hW) (by omega)) hne, hwl, List.length_map, e, List.append_assoc]
    rfl
  have e2 := parse_fields h (((I.length : Int) + 1, W) :: m) I (numsL defC) ⟨#[]⟩ [] 0 hd (fun i hi => ⟨hI i hi, fun h => by cases h⟩) rfl rfl
  unfold parseC
  rw [e1, if_pos rfl]
  dsimp only
  rw [e2, parseG]
  dsimp only
  rcases W with _ | ⟨a, _ | ⟨b, _ | ⟨c, W⟩⟩⟩
  · exact absurd rfl h0
  · rfl
  · exact absurd rfl h2
  · rfl

end Go.Proofs.YtlakpbfmcnlnbaaDoor
