/-
  A configuration's text: the walk.
-/
import Derived.Test.YtlakpbfmcnlnbaaDoorLE
import Derived.Deep.MidRow
namespace Go.Proofs.YtlakpbfmcnlnbaaDoor
open Go VE Go.RowKit Go.Shelf

attribute [local go_sem ↓] Go.wp_at_zero Go.wp_at_succ

theorem may_calls {c : El TConfig} (hc : fits TConfig c = true) {ok : Nat → Nat → Prop} {w : World} (hok : ∀ b o, ok b o → b < w.heap.size) (hl : Laid ok w) :
    Calls Tryd.prog 15 #[.agg (flatC c)] w fun e w' => e = .returned (.bool (mayC c)) ∧ Below w.heap.size w w' := by
  have h : VE.Returns Tryd.prog 15 [mkIV true (enc TConfig c)] (vb (mayC c)) := SpecOK.returns cMay_ok (args := [mkIV true (enc TConfig c)]) (by
    show test (fits TConfig c && true) (some (vb (mayC c), [])) = _
    rw [hc]; rfl)
  refine (h w #[.agg (flatC c)] ok hok hl rfl fun j d hd => ?_).mono fun e w' ⟨u, he, hb, hr⟩ => ?_
  · cases j with
    | zero =>
      simp at hd; subst hd
      exact .agg _ _ rfl fun j d hd => flat_rel j d hd
    | succ j => simp at hd
  · obtain ⟨rfl, _⟩ := iv_v hr
    exact ⟨he, hb⟩

set_option maxHeartbeats 8000000 in
set_option maxRecDepth 1000000 in
theorem text_walk (c : El TConfig) (hc : fits TConfig c = true) (w : World) (ok : Nat → Nat → Prop) (hok : ∀ c o, ok c o → c < w.heap.size) (hl : Laid ok w) :
    Calls Tryd.prog 13 #[.agg (flatC c)] w fun e w' => e = .returned (.string (textC c)) ∧ Below w.heap.size w w' := by
  have hn : Tryd.f13.ntmps = 82 := rfl
  have hr : (w.alloc (.cells (flatC c) 23 (0, 0))).rangeAt w.heap.size 0 (flatVals TConfig c) := fun j v hv => by
    rw [Nat.zero_add, cell_fresh]
    show (flatVals TConfig c).toArray[j]? = some v
    simpa using hv
  obtain ⟨d, hd1, hd2⟩ : ∃ d, Tryd.prog.underlying 23 = some d ∧ d.isRow = true := by
    have h : (Tryd.prog.underlying 23).any (·.isRow) = true := by kernel_rfl
    cases e : Tryd.prog.underlying 23 with
    | none => rw [e] at h; cases h
    | some d => exact ⟨d, rfl, by rw [e] at h; exact h⟩
  go_enter Tryd.func13, hn
  refine wp_seq_k fun K hK => ?_
  have HK : Hid (∀ a w, _ → K a w) := hK
  clear hK
  go_wp2
  refine HK.out _ _ ?_
  clear HK
  refine wp_seq_k fun K2 hK2 => ?_
  refine wp_seq_k fun K3 hK3 => ?_
  refine wp_region_lit ?_
  refine wpList_load_mid rfl 23 _ rfl w.heap.size 0 rfl (flatVals TConfig c) d hr hd1 hd2 (by kernel_rfl) ?_
  have hb0 : Below w.heap.size w (w.alloc (.cells (flatC c) 23 (0, 0))) := (Below.refl _ w).alloc (Nat.le_refl _) _
  obtain ⟨hL, hO⟩ := laid_below hok hl hb0
  have hcell : (w.alloc (.cells (flatC c) 23 (0, 0))).heap[w.heap.size]? = some (.cells (flatC c) 23 (0, 0)) := by
    show (w.heap.push _)[w.heap.size]? = _
    rw [Array.getElem?_push_size]
  have hsz : (w.alloc (.cells (flatC c) 23 (0, 0))).heap.size = w.heap.size + 1 := by show (w.heap.push _).size = _; rw [Array.size_push]
  have hmay := may_calls hc hO hL
  generalize w.alloc (.cells (flatC c) 23 (0, 0)) = w1 at *
  change wpList Tryd.prog _ _ _ (Act.put _ _ (.agg (flatC c))) w1
  generalize hfc0 : flatC c = fc at *
  go_wp2_with (go_at_call 15; refine hmay.mono ?_)
  rintro e w2 ⟨rfl, hb1⟩
  have hfc : ∀ j, j < 23 → fc.getD j undef = cellV (numsL c) (cZone c) j := fun j hj => by rw [← hfc0]; exact flat_cell c hj
  have hfs : fc.size = 23 := by rw [← hfc0]; rfl
  cases hm : mayC c
  · have htx : textC c = ⟨#[]⟩ := by unfold textC; rw [hm]; rfl
    rw [hm] at *
    go_wp2
    go_ret
    refine ⟨?_, hb0.trans (hb1.mono (by omega))⟩
    rw [htx]
    rfl
  · have htx := text_bs hm
    have hG := good_may hm
    clear hm hmay
    obtain ⟨hL2, hO2⟩ := laid_below hO hL hb1
    go_wp2_with (go_at_call 29; refine (num_calls w.heap.size 0 (ok := ok) ?hO3 ?hL3).mono ?hN)
    case hO3 => exact (laid_below hO2 hL2 ((Below.refl _ w2).alloc (Nat.le_refl _) _)).2
    case hL3 => exact (laid_below hO2 hL2 ((Below.refl _ w2).alloc (Nat.le_refl _) _)).1
    rintro e w3 ⟨g1, c1, g2, c2, rfl, n1, n2, o1, o2, hb3⟩
    obtain ⟨hL3, hO3⟩ := laid_below hO2 hL2 (((Below.refl _ w2).alloc (Nat.le_refl _) _).trans (hb3.mono (by show _ ≤ (w2.heap.push _).size; rw [Array.size_push]; omega)))
    have hs2 : (w2.alloc (Obj.cells #[Value.pointer none, Value.slice none 0 0] 62)).heap.size = w2.heap.size + 1 := by show (w2.heap.push _).size = _; rw [Array.size_push]
    have hs12 := hb1.size
    have hs3 := hb3.size
    have hB0 : Bld w3.heap.size w2.heap.size (Lib.byteCells (pt (numsL c) (cZone c) 0)) w3 := by
      refine ⟨by omega, Nat.le_refl _, .pointer none, .slice none 0 0, .inl rfl, ?_, World.ownsRowF_nil _ _ _ _⟩
      rw [hb3.block w2.heap.size (by omega)]
      show (w2.heap.push _)[w2.heap.size]? = _
      rw [Array.getElem?_push_size]
    have hcfg : w3.heap[w.heap.size]? = some (.cells fc 23 (0, 0)) := by
      rw [hb3.block w.heap.size (by omega)]
      show (w2.heap.push _)[w.heap.size]? = _
      rw [Array.getElem?_push_lt (by omega)]
      have := (hb1.block w.heap.size (by omega)).trans hcell
      rw [Array.getElem?_eq_getElem (by omega)] at this
      exact this
    have hw03 : Below w.heap.size w w3 := ((hb0.trans (hb1.mono (by omega))).alloc (by omega) _).trans (hb3.mono (by omega))
    have hg1 : w2.heap.size < g1 := by omega
    have hg2 : w2.heap.size < g2 := by omega
    have hk1 := n1.lt
    have hk2 := n2.lt
    have hcb : w.heap.size < w2.heap.size := by omega
    have cells1 := n1.cells
    have cells2 := n2.cells
    generalize hC : w3.heap.size = C at *
    generalize hb : w2.heap.size = b at *
    clear hb3 n1 n2 hb1 hcell hL2 hO2 hs2 hs12 hs3
    go_wp2
    go_loopw [20] (fun v wr => ∃ k : Nat, k ≤ 15 ∧ v = .int .i64 (k : Int) ∧ Bld C b (Lib.byteCells (pt (numsL c) (cZone c) k)) wr ∧ FrB C b w3 wr)
      (fun v _ => 15 - (intOf v).toNat)
    case atStart => exact ⟨0, by omega, rfl, hB0, Fr.refl _ _ _⟩
    case round =>
      obtain ⟨k, hk, rfl, hB, hF⟩ := hrel
      by_cases hk2 : k < 15
      · have hx := first_at w.heap.size hk2
        have ev := flat_numcell c (j := k) (by omega) (by omega)
        rw [hfc0] at ev
        have hle := hB.le
        have hgb := hG.le k (by omega)
        have hb0 := bound_row (show k < 23 by omega)
        have hplain := row_name (show k < 23 by omega)
        have hln := ln_num (numsL c) (cZone c) (show k < 20 by omega) (by omega)
        have hlen := pt_len hG (k := k) (by omega)
        have hlen2 := ln_len hG (k := k) (by omega)
        generalize hnm : (rdEl TRow rowsL k).1 = nm at *
        generalize hlo : (rdEl TRow rowsL k).2.1 = lo at *
        generalize hhi : (rdEl TRow rowsL k).2.2.1 = hi at *
        have cell : ∀ j u, j < 4 → (rowV (nm, (w.heap.size, 0 + k), lo, hi))[j]? = some u → wr.cell? ⟨g1, k * 4 + j, none⟩ = some u := fun j u hj hu => by
          have h1 := cells1 (k * 4 + j) u (by rw [rowsV_get _ k _ j hx hj]; exact hu)
          exact (cell_congr (hF.block g1 (by omega) (by omega)) (k * 4 + j)).trans h1
        have d0 : wr.cell? ⟨g1, k * 4, none⟩ = some (.string nm) := cell 0 _ (by decide) rfl
        have d1 : wr.cell? ⟨g1, k * 4 + 1, none⟩ = some (.pointer (some ⟨w.heap.size, 0 + k, none⟩)) := cell 1 _ (by decide) rfl
        have d2 : wr.cell? ⟨g1, k * 4 + 2, none⟩ = some (.int .i64 lo) := cell 2 _ (by decide) rfl
        have d3 : wr.cell? ⟨g1, k * 4 + 3, none⟩ = some (.int .i64 hi) := cell 3 _ (by decide) rfl
        clear cell
        rw [Nat.zero_add] at d1
        go_wp2
        have e0 : (wr.alloc (.cells #[.string nm, .pointer (some ⟨w.heap.size, k, none⟩), .int .i64 lo, .int .i64 hi] 68 (0, 0))).cell? ⟨wr.heap.size, 0, none⟩ = some (.string nm) := cell_fresh _ _ _ _
        have e1 : (wr.alloc (.cells #[.string nm, .pointer (some ⟨w.heap.size, k, none⟩), .int .i64 lo, .int .i64 hi] 68 (0, 0))).cell? ⟨wr.heap.size, 1, none⟩ = some (.pointer (some ⟨w.heap.size, k, none⟩)) := cell_fresh _ _ _ _
        have hW : Below wr.heap.size wr (wr.alloc (.cells #[.string nm, .pointer (some ⟨w.heap.size, k, none⟩), .int .i64 lo, .int .i64 hi] 68 (0, 0))) := (Below.refl _ _).alloc (Nat.le_refl _) _
        have hz : wr.heap.size < (wr.alloc (.cells #[.string nm, .pointer (some ⟨w.heap.size, k, none⟩), .int .i64 lo, .int .i64 hi] 68 (0, 0))).heap.size := by
          show wr.heap.size < (wr.heap.push _).size
          rw [Array.size_push]; omega
        have hBW := hB.below hW
        have hFW := FrB.below hF hle hW
        have hWb : (wr.alloc (.cells #[.string nm, .pointer (some ⟨w.heap.size, k, none⟩), .int .i64 lo, .int .i64 hi] 68 (0, 0))).heap[wr.heap.size]? = some (.cells #[.string nm, .pointer (some ⟨w.heap.size, k, none⟩), .int .i64 lo, .int .i64 hi] 68 (0, 0)) := by
          show (wr.heap.push _)[wr.heap.size]? = _
          rw [Array.getElem?_push_size]
        clear d0 d1 d2 d3 hW hB hF
        generalize wr.alloc (.cells #[.string nm, .pointer (some ⟨w.heap.size, k, none⟩), .int .i64 lo, .int .i64 hi] 68 (0, 0)) = W at *
        have hcW : W.heap[w.heap.size]? = some (.cells fc 23 (0, 0)) := (hFW.block w.heap.size (by omega) (by omega)).trans hcfg
        have e2 : W.cell? ⟨w.heap.size, k, none⟩ = some (.int .i64 (nth (numsL c) k)) := by rw [(cell_blk hcW (by omega)).1, ev]
        have hOW : ∀ b o, ok b o → b < W.heap.size := fun b o h => by have := hok b o h; have := hw03.size; omega
        have hLW : Laid ok W := (laid_below hok hl (hw03.trans ⟨hFW.os, hFW.tape, hFW.output, hFW.size, fun j hj => hFW.block j (by have := hw03.size; omega) (by omega)⟩)).1
        have aft : ∀ w', Below W.heap.size W w' → w'.cell? ⟨wr.heap.size, 0, none⟩ = some (.string nm) ∧ w'.cell? ⟨wr.heap.size, 1, none⟩ = some (.pointer (some ⟨w.heap.size, k, none⟩)) ∧ w'.cell? ⟨w.heap.size, k, none⟩ = some (.int .i64 (nth (numsL c) k)) ∧ Bld C b (Lib.byteCells (pt (numsL c) (cZone c) k)) w' ∧ FrB C b w3 w' := fun w' h =>
          ⟨(h.cell (p := ⟨wr.heap.size, 0, none⟩) hz).trans e0, (h.cell (p := ⟨wr.heap.size, 1, none⟩) hz).trans e1, (h.cell (p := ⟨w.heap.size, k, none⟩) (show w.heap.size < W.heap.size by omega)).trans e2, hBW.below h, FrB.below hFW (by omega) h⟩
        have hl3 : (Lib.byteCells (pt (numsL c) (cZone c) k)).length + ((nm ++ (⟨#[32]⟩ : ByteArray)) ++ itoaB (nth (numsL c) k) ++ (⟨#[10]⟩ : ByteArray)).size ≤ 140737488355328 := by
          rw [← hln, Lib.byteCells_length]; omega
        have aft2 : ∀ w', Oth b W w' → w'.cell? ⟨wr.heap.size, 0, none⟩ = some (.string nm) ∧ w'.cell? ⟨wr.heap.size, 1, none⟩ = some (.pointer (some ⟨w.heap.size, k, none⟩)) ∧ w'.cell? ⟨w.heap.size, k, none⟩ = some (.int .i64 (nth (numsL c) k)) := fun w' h => by
          have h1 := h _ _ _ _ (by omega) (by decide) hWb
          have h2 := h _ _ _ _ (by omega) (by decide) hcW
          refine ⟨(cell_blk (j := 0) h1 (Nat.zero_lt_succ 3)).1, (cell_blk (j := 1) h1 (Nat.succ_lt_succ (Nat.zero_lt_succ 2))).1, ?_⟩
          rw [(cell_blk h2 (by omega)).1, ev]
        have z1 : nm.size ≤ 12 := hplain.2.2
        have z2 : (itoaB (nth (numsL c) k)).size ≤ 21 := itoa_size (by omega) (by omega)
        have y1 : ¬ 9223372036854775807 < nm.size + 1 := by omega
        have y2 : ¬ 9223372036854775807 < nm.size + 1 + (itoaB (nth (numsL c) k)).size := by omega
        have y3 : ¬ 9223372036854775807 < nm.size + 1 + (itoaB (nth (numsL c) k)).size + 1 := by omega
        go_region_held3 (fun w' => w'.cell? ⟨wr.heap.size, 0, none⟩ = some (.string nm) ∧ w'.cell? ⟨wr.heap.size, 1, none⟩ = some (.pointer (some ⟨w.heap.size, k, none⟩)) ∧ w'.cell? ⟨w.heap.size, k, none⟩ = some (.int .i64 (nth (numsL c) k)))
          (first | go_keep)
          (first
            | (go_at_call 31; refine (itoa_calls (by omega) (by omega) (ok := ok) (by exact hOW) (by exact hLW)).mono ?_; rintro e w4 ⟨rfl, hb4⟩; obtain ⟨f0, f1, f2, hB4, hF4⟩ := aft _ ⟨hb4.os, hb4.tape, hb4.output, hb4.size, hb4.block⟩; have hX4 := othB (b := b) ⟨hb4.os, hb4.tape, hb4.output, hb4.size, hb4.block⟩)
            | (go_at_call 30; refine (write_b _ (by exact hB4) (by exact hl3)).mono ?_; rintro e w5 ⟨rfl, hB5, hF5, hO5⟩; obtain ⟨k0, k1, k2⟩ := aft2 _ (fun k cs t fz a1 a2 a3 => hO5 k cs t fz a1 a2 (hX4 k cs t fz a1 a2 a3))))
        all_goals
          go_wp2
          go_roundw
          case rel =>
            refine ⟨k + 1, by omega, by go_num, ?_, hF4.trans ⟨hF5.os, hF5.tape, hF5.output, hF5.size, hF5.block⟩⟩
            rw [pt_succ, Lib.byteCells_append, hln]
            exact hB5
          case measure =>
            simp [intOf]
            omega
      · have hkl : k = 15 := by omega
        subst hkl
        have hc1 := (hF.block w.heap.size (by omega) (by omega)).trans hcfg
        have ev := hfc 15 (by decide)
        have q15 : wr.cell? ⟨w.heap.size, 15, none⟩ = some (.bool (nth (numsL c) 15 == 1)) := by rw [(cell_blk hc1 (by omega)).1, ev]; rfl
        have hle := hB.le
        have hOW : ∀ b o, ok b o → b < wr.heap.size := fun b o h => by have := hok b o h; have := hw03.size; omega
        have hLW : Laid ok wr := (laid_below hok hl (hw03.trans ⟨hF.os, hF.tape, hF.output, hF.size, fun j hj => hF.block j (by have := hw03.size; omega) (by omega)⟩)).1
        have hln : lnB (numsL c) (cZone c) 15 = ((⟨#[111, 110, 101, 32]⟩ : ByteArray) ++ yesW (nth (numsL c) 15 == 1)) ++ (⟨#[10]⟩ : ByteArray) := rfl
        have hlen := pt_len hG (k := 15) (by omega)
        have hlen2 := ln_len hG (k := 15) (by omega)
        have hz2 : (yesW (nth (numsL c) 15 == 1)).size ≤ 3 := by cases (nth (numsL c) 15 == 1) <;> decide
        go_wp2_with (first
          | (go_at_call 32; refine (word_calls _ (ok := ok) (by exact hOW) (by exact hLW)).mono ?_; rintro e w4 ⟨rfl, hb4⟩; have hB4 := hB.below hb4; have hF4 := FrB.below hF hle hb4)
          | (go_at_call 30; refine (write_b _ (by exact hB4) (by rw [← hln, Lib.byteCells_length]; omega)).mono ?_; rintro e w5 ⟨rfl, hB5, hF5, hO5⟩))
        have hB5 : Bld C b (Lib.byteCells (pt (numsL c) (cZone c) 16)) w5 := by
          rw [pt_succ, Lib.byteCells_append, hln]
          exact hB5
        have hF5 : FrB C b w3 w5 := hF4.trans hF5
        clear hB4 hF4 hO5 hB hF
        go_loopw [44] (fun v wr => ∃ k : Nat, k ≤ 4 ∧ v = .int .i64 (k : Int) ∧ Bld C b (Lib.byteCells (pt (numsL c) (cZone c) (16 + k))) wr ∧ FrB C b w3 wr)
          (fun v _ => 4 - (intOf v).toNat)
        case atStart => exact ⟨0, by omega, rfl, hB5, hF5⟩
        case round =>
          clear hB5 hF5 hb4 hOW hLW q15 hc1 hle
          obtain ⟨k, hk, rfl, hB, hF⟩ := hrel
          by_cases hk2 : k < 4
          · have hx := second_at w.heap.size hk2
            have ev := flat_numcell c (j := 16 + k) (by omega) (by omega)
            rw [hfc0] at ev
            have hle := hB.le
            have hgb := hG.le (16 + k) (by omega)
            have hb0 := bound_row (show 16 + k < 23 by omega)
            have hplain := row_name (show 16 + k < 23 by omega)
            have hln := ln_num (numsL c) (cZone c) (show 16 + k < 20 by omega) (by omega)
            have hlen := pt_len hG (k := 16 + k) (by omega)
            have hlen2 := ln_len hG (k := 16 + k) (by omega)
            generalize hnm : (rdEl TRow rowsL (16 + k)).1 = nm at *
            generalize hlo : (rdEl TRow rowsL (16 + k)).2.1 = lo at *
            generalize hhi : (rdEl TRow rowsL (16 + k)).2.2.1 = hi at *
            have cell : ∀ j u, j < 4 → (rowV (nm, (w.heap.size, 0 + (16 + k)), lo, hi))[j]? = some u → wr.cell? ⟨g2, k * 4 + j, none⟩ = some u := fun j u hj hu => by
              have h1 := cells2 (k * 4 + j) u (by rw [rowsV_get _ k _ j hx hj]; exact hu)
              exact (cell_congr (hF.block g2 (by omega) (by omega)) (k * 4 + j)).trans h1
            have d0 : wr.cell? ⟨g2, k * 4, none⟩ = some (.string nm) := cell 0 _ (by decide) rfl
            have d1 : wr.cell? ⟨g2, k * 4 + 1, none⟩ = some (.pointer (some ⟨w.heap.size, 0 + (16 + k), none⟩)) := cell 1 _ (by decide) rfl
            have d2 : wr.cell? ⟨g2, k * 4 + 2, none⟩ = some (.int .i64 lo) := cell 2 _ (by decide) rfl
            have d3 : wr.cell? ⟨g2, k * 4 + 3, none⟩ = some (.int .i64 hi) := cell 3 _ (by decide) rfl
            clear cell
            rw [Nat.zero_add] at d1
            go_wp2
            have e0 : (wr.alloc (.cells #[.string nm, .pointer (some ⟨w.heap.size, 16 + k, none⟩), .int .i64 lo, .int .i64 hi] 68 (0, 0))).cell? ⟨wr.heap.size, 0, none⟩ = some (.string nm) := cell_fresh _ _ _ _
            have e1 : (wr.alloc (.cells #[.string nm, .pointer (some ⟨w.heap.size, 16 + k, none⟩), .int .i64 lo, .int .i64 hi] 68 (0, 0))).cell? ⟨wr.heap.size, 1, none⟩ = some (.pointer (some ⟨w.heap.size, 16 + k, none⟩)) := cell_fresh _ _ _ _
            have hW : Below wr.heap.size wr (wr.alloc (.cells #[.string nm, .pointer (some ⟨w.heap.size, 16 + k, none⟩), .int .i64 lo, .int .i64 hi] 68 (0, 0))) := (Below.refl _ _).alloc (Nat.le_refl _) _
            have hz : wr.heap.size < (wr.alloc (.cells #[.string nm, .pointer (some ⟨w.heap.size, 16 + k, none⟩), .int .i64 lo, .int .i64 hi] 68 (0, 0))).heap.size := by
              show wr.heap.size < (wr.heap.push _).size
              rw [Array.size_push]; omega
            have hBW := hB.below hW
            have hFW := FrB.below hF hle hW
            have hWb : (wr.alloc (.cells #[.string nm, .pointer (some ⟨w.heap.size, 16 + k, none⟩), .int .i64 lo, .int .i64 hi] 68 (0, 0))).heap[wr.heap.size]? = some (.cells #[.string nm, .pointer (some ⟨w.heap.size, 16 + k, none⟩), .int .i64 lo, .int .i64 hi] 68 (0, 0)) := by
              show (wr.heap.push _)[wr.heap.size]? = _
              rw [Array.getElem?_push_size]
            clear d0 d1 d2 d3 hW hB hF
            generalize wr.alloc (.cells #[.string nm, .pointer (some ⟨w.heap.size, 16 + k, none⟩), .int .i64 lo, .int .i64 hi] 68 (0, 0)) = W at *
            have hcW : W.heap[w.heap.size]? = some (.cells fc 23 (0, 0)) := (hFW.block w.heap.size (by omega) (by omega)).trans hcfg
            have e2 : W.cell? ⟨w.heap.size, 16 + k, none⟩ = some (.int .i64 (nth (numsL c) (16 + k))) := by rw [(cell_blk hcW (by omega)).1, ev]
            have hOW : ∀ b o, ok b o → b < W.heap.size := fun b o h => by have := hok b o h; have := hw03.size; omega
            have hLW : Laid ok W := (laid_below hok hl (hw03.trans ⟨hFW.os, hFW.tape, hFW.output, hFW.size, fun j hj => hFW.block j (by have := hw03.size; omega) (by omega)⟩)).1
            have aft : ∀ w', Below W.heap.size W w' → w'.cell? ⟨wr.heap.size, 0, none⟩ = some (.string nm) ∧ w'.cell? ⟨wr.heap.size, 1, none⟩ = some (.pointer (some ⟨w.heap.size, 16 + k, none⟩)) ∧ w'.cell? ⟨w.heap.size, 16 + k, none⟩ = some (.int .i64 (nth (numsL c) (16 + k))) ∧ Bld C b (Lib.byteCells (pt (numsL c) (cZone c) (16 + k))) w' ∧ FrB C b w3 w' := fun w' h =>
              ⟨(h.cell (p := ⟨wr.heap.size, 0, none⟩) hz).trans e0, (h.cell (p := ⟨wr.heap.size, 1, none⟩) hz).trans e1, (h.cell (p := ⟨w.heap.size, 16 + k, none⟩) (show w.heap.size < W.heap.size by omega)).trans e2, hBW.below h, FrB.below hFW (by omega) h⟩
            have hl3 : (Lib.byteCells (pt (numsL c) (cZone c) (16 + k))).length + ((nm ++ (⟨#[32]⟩ : ByteArray)) ++ itoaB (nth (numsL c) (16 + k)) ++ (⟨#[10]⟩ : ByteArray)).size ≤ 140737488355328 := by
              rw [← hln, Lib.byteCells_length]; omega
            have aft2 : ∀ w', Oth b W w' → w'.cell? ⟨wr.heap.size, 0, none⟩ = some (.string nm) ∧ w'.cell? ⟨wr.heap.size, 1, none⟩ = some (.pointer (some ⟨w.heap.size, 16 + k, none⟩)) ∧ w'.cell? ⟨w.heap.size, 16 + k, none⟩ = some (.int .i64 (nth (numsL c) (16 + k))) := fun w' h => by
              have h1 := h _ _ _ _ (by omega) (by decide) hWb
              have h2 := h _ _ _ _ (by omega) (by decide) hcW
              refine ⟨(cell_blk (j := 0) h1 (Nat.zero_lt_succ 3)).1, (cell_blk (j := 1) h1 (Nat.succ_lt_succ (Nat.zero_lt_succ 2))).1, ?_⟩
              rw [(cell_blk h2 (by omega)).1, ev]
            have z1 : nm.size ≤ 12 := hplain.2.2
            have z2 : (itoaB (nth (numsL c) (16 + k))).size ≤ 21 := itoa_size (by omega) (by omega)
            have y1 : ¬ 9223372036854775807 < nm.size + 1 := by omega
            have y2 : ¬ 9223372036854775807 < nm.size + 1 + (itoaB (nth (numsL c) (16 + k))).size := by omega
            have y3 : ¬ 9223372036854775807 < nm.size + 1 + (itoaB (nth (numsL c) (16 + k))).size + 1 := by omega
            go_region_held3 (fun w' => w'.cell? ⟨wr.heap.size, 0, none⟩ = some (.string nm) ∧ w'.cell? ⟨wr.heap.size, 1, none⟩ = some (.pointer (some ⟨w.heap.size, 16 + k, none⟩)) ∧ w'.cell? ⟨w.heap.size, 16 + k, none⟩ = some (.int .i64 (nth (numsL c) (16 + k))))
              (first | go_keep)
              (first
                | (go_at_call 31; refine (itoa_calls (by omega) (by omega) (ok := ok) (by exact hOW) (by exact hLW)).mono ?_; rintro e w4 ⟨rfl, hb4⟩; obtain ⟨f0, f1, f2, hB4, hF4⟩ := aft _ ⟨hb4.os, hb4.tape, hb4.output, hb4.size, hb4.block⟩; have hX4 := othB (b := b) ⟨hb4.os, hb4.tape, hb4.output, hb4.size, hb4.block⟩)
                | (go_at_call 30; refine (write_b _ (by exact hB4) (by exact hl3)).mono ?_; rintro e w5 ⟨rfl, hB5, hF5, hO5⟩; obtain ⟨k0, k1, k2⟩ := aft2 _ (fun k cs t fz a1 a2 a3 => hO5 k cs t fz a1 a2 (hX4 k cs t fz a1 a2 a3))))
            all_goals
              go_wp2
              go_roundw
              case rel =>
                refine ⟨k + 1, by omega, by go_num, ?_, hF4.trans ⟨hF5.os, hF5.tape, hF5.output, hF5.size, hF5.block⟩⟩
                rw [show 16 + (k + 1) = 16 + k + 1 by omega, pt_succ, Lib.byteCells_append, hln]
                exact hB5
              case measure =>
                simp [intOf]
                omega
          · have hkl : k = 4 := by omega
            subst hkl
            have hc1 := (hF.block w.heap.size (by omega) (by omega)).trans hcfg
            have hle := hB.le
            have q20 : wr.cell? ⟨w.heap.size, 20, none⟩ = some (.int .i64 (nth (numsL c) 20)) := by rw [(cell_blk hc1 (by omega)).1, hfc 20 (by decide)]; rfl
            have q21 : wr.cell? ⟨w.heap.size, 21, none⟩ = some (.string (cZone c)) := by rw [(cell_blk hc1 (by omega)).1, hfc 21 (by decide)]; rfl
            have q22 : wr.cell? ⟨w.heap.size, 22, none⟩ = some (.bool (nth (numsL c) 22 == 1)) := by rw [(cell_blk hc1 (by omega)).1, hfc 22 (by decide)]; rfl
            have hOW : ∀ w' : World, Below wr.heap.size wr w' → (∀ b o, ok b o → b < w'.heap.size) ∧ Laid ok w' := fun w' h => by
              have h2 := laid_below hok hl ((hw03.trans ⟨hF.os, hF.tape, hF.output, hF.size, fun j hj => hF.block j (by have := hw03.size; omega) (by omega)⟩).trans (h.mono (by have := hw03.size; omega)))
              exact ⟨h2.2, h2.1⟩
            have aft : ∀ w' : World, Below wr.heap.size wr w' → w'.cell? ⟨w.heap.size, 20, none⟩ = some (.int .i64 (nth (numsL c) 20)) ∧ w'.cell? ⟨w.heap.size, 22, none⟩ = some (.bool (nth (numsL c) 22 == 1)) ∧ Bld C b (Lib.byteCells (pt (numsL c) (cZone c) 20)) w' ∧ FrB C b w3 w' ∧ w'.heap[w.heap.size]? = some (.cells fc 23 (0, 0)) := fun w' h =>
              ⟨(h.cell (p := ⟨w.heap.size, 20, none⟩) (show w.heap.size < wr.heap.size by omega)).trans q20, (h.cell (p := ⟨w.heap.size, 22, none⟩) (show w.heap.size < wr.heap.size by omega)).trans q22, hB.below h, FrB.below hF hle h, (h.block w.heap.size (by omega)).trans hc1⟩
            have aft2 : ∀ w' : World, w'.heap[w.heap.size]? = some (.cells fc 23 (0, 0)) → w'.cell? ⟨w.heap.size, 20, none⟩ = some (.int .i64 (nth (numsL c) 20)) ∧ w'.cell? ⟨w.heap.size, 22, none⟩ = some (.bool (nth (numsL c) 22 == 1)) := fun w' h => by
              refine ⟨?_, ?_⟩
              · rw [(cell_blk h (by omega)).1, hfc 20 (by decide)]; rfl
              · rw [(cell_blk h (by omega)).1, hfc 22 (by decide)]; rfl
            have hgb := hG.le 20 (by decide)
            have hg1 : loR 20 = 1 := rfl
            have hg3 : hiR 20 = 3 := rfl
            have hlast := pt_last (numsL c) (cZone c)
            have hlen := pt_len hG (k := 23) (by omega)
            have hz2 : (yesW (nth (numsL c) 22 == 1)).size ≤ 3 := by cases (nth (numsL c) 22 == 1) <;> decide
            have hvz := val_zone (N := numsL c) (Z := cZone c)
            have hzs : (cZone c).size ≤ 12 := by
              rcases zone_cases hG.zone with h | h
              · rw [h]; decide
              · exact (name_plain h).2.2
            have htx : bs (textC c) = pt (numsL c) (cZone c) 23 := htx
            generalize cZone c = Z at *
            cases hz : Z.toList == []
            · have hzn : ¬ Z.size = 0 := fun e => by
                have h2 : bs Z = [] := List.eq_nil_of_length_eq_zero (by rw [bs_length]; exact e)
                rw [toList_bs, h2] at hz
                cases hz
              rw [if_neg hzn] at hvz
              rcases (by omega : nth (numsL c) 20 = 1 ∨ nth (numsL c) 20 = 2 ∨ nth (numsL c) 20 = 3) with hp | hp | hp
              · rw [hp] at q20 aft aft2
                have hvp : valB (numsL c) Z 20 = ⟨#[114, 111, 117, 110, 100]⟩ := val_pol (p := 0) (by rw [hp]; rfl)
                rw [hvp, hvz] at hlast
                have hl3 := hlen
                rw [hlast, List.length_append, bs_length] at hl3
                go_wp2
                have x0 : ¬ 9223372036854775807 < 18 + Z.size := by omega
                have x1 : ¬ 9223372036854775807 < 18 + Z.size + 10 := by omega
                have x2 : ¬ 9223372036854775807 < 18 + Z.size + 10 + (yesW (nth (numsL c) 22 == 1)).size := by omega
                have x3 : ¬ 9223372036854775807 < 18 + Z.size + 10 + (yesW (nth (numsL c) 22 == 1)).size + 1 := by omega
                have hwp : IntKind.i64.wrap 0 = 0 := by decide
                refine wp_region_held_drew (S := fun w' => w'.cell? ⟨w.heap.size, 20, none⟩ = some (.int .i64 1) ∧ w'.cell? ⟨w.heap.size, 22, none⟩ = some (.bool (nth (numsL c) 22 == 1))) (by kernel_rfl) ⟨by go_keep, by go_keep⟩ (fun hHeld => ?_)
                refine wpAnyH_take (i := 1) (oi := _) (v := ?v1z0p1) rfl (by kernel_rfl) (by kernel_rfl) (by kernel_rfl) (fun _ _ _ h => h) (Or.inl ⟨by rfl, ?hy1z0p1⟩) (by assumption) ?rest1z0p1
                case hy1z0p1 => (intro wx hSw; (try dsimp only at hSw); go_simp; try with_reducible rfl)
                try simp only [Act.put]
                refine wpAnyH_take (i := 2) (oi := _) (v := ?v2z0p1) rfl (by kernel_rfl) (by kernel_rfl) (by kernel_rfl) (fun _ _ _ h => h) (Or.inl ⟨by rfl, ?hy2z0p1⟩) (by assumption) ?rest2z0p1
                case hy2z0p1 => (intro wx hSw; (try dsimp only at hSw); go_simp; try with_reducible rfl)
                try simp only [Act.put]
                refine wpAnyH_take (i := 3) (oi := _) (v := ?v3z0p1) rfl (by kernel_rfl) (by kernel_rfl) (by kernel_rfl) (fun _ _ _ h => h) (Or.inl ⟨by rfl, ?hy3z0p1⟩) (by assumption) ?rest3z0p1
                case hy3z0p1 => (intro wx hSw; (try dsimp only at hSw); go_simp; try with_reducible rfl)
                try simp only [Act.put]
                refine wpAnyH_take (i := 8) (oi := _) (v := ?v8z0p1) rfl (by kernel_rfl) (by kernel_rfl) (by kernel_rfl) (fun _ _ _ h => h) (Or.inl ⟨by rfl, ?hy8z0p1⟩) (by assumption) ?rest8z0p1
                case hy8z0p1 => (intro wx hSw; (try dsimp only at hSw); go_simp; try with_reducible rfl)
                try simp only [Act.put]
                refine wpAnyH_take (i := 11) (oi := _) (v := ?v11z0p1) rfl (by kernel_rfl) (by kernel_rfl) (by kernel_rfl) (fun _ _ _ h => h) (Or.inl ⟨by rfl, ?hy11z0p1⟩) (by assumption) ?rest11z0p1
                case hy11z0p1 => (intro wx hSw; (try dsimp only at hSw); go_simp; try with_reducible rfl)
                try simp only [Act.put]
                refine wpAnyH_take (i := 12) (oi := _) (v := ?v12z0p1) rfl (by kernel_rfl) (by kernel_rfl) (by kernel_rfl) (fun _ _ _ h => h) (Or.inl ⟨by rfl, ?hy12z0p1⟩) (by assumption) ?rest12z0p1
                case hy12z0p1 => (intro wx hSw; (try dsimp only at hSw); go_simp; try with_reducible rfl)
                try simp only [Act.put]
                refine wpAnyH_ready (rs := [0]) (by kernel_rfl) (by simp) ?_
                refine AllReadyH.cons (o := _) rfl (fun K9 hK9 => ?_) AllReadyH.nil
                go_simp
                go_at_call 33; refine (pols_calls _).mono ?_; rintro e w4 ⟨g, tg, rfl, hgb4, htg, hgr, hb4⟩; have hb4 : Below wr.heap.size wr w4 := ⟨hb4.os, hb4.tape, hb4.output, hb4.size, hb4.block⟩; obtain ⟨f0, f1, hB4, hF4, hH4⟩ := aft _ hb4
                have hgl := lt_of_some hgb4
                refine hK9.out _ _ ⟨f0, f1⟩ (fun _ => ?_)
                refine wpAnyH_weaken (S' := fun w' => (w'.cell? ⟨w.heap.size, 20, none⟩ = some (.int .i64 1) ∧ w'.cell? ⟨w.heap.size, 22, none⟩ = some (.bool (nth (numsL c) 22 == 1))) ∧ w'.cell? ⟨g, 0, none⟩ = some (.string ⟨#[114, 111, 117, 110, 100]⟩)) (fun _ h => h.1) _ _ _ _ ?_
                have hHeld4 : (w4.cell? ⟨w.heap.size, 20, none⟩ = some (.int .i64 1) ∧ w4.cell? ⟨w.heap.size, 22, none⟩ = some (.bool (nth (numsL c) 22 == 1))) ∧ w4.cell? ⟨g, 0, none⟩ = some (.string ⟨#[114, 111, 117, 110, 100]⟩) := ⟨⟨f0, f1⟩, (cell_blk (j := 0) hgb4 (by decide +revert)).1⟩
                try simp only [Act.put]
                refine wpAnyH_take (i := 4) (oi := _) (v := ?v4z0p1) rfl (by kernel_rfl) (by kernel_rfl) (by kernel_rfl) (fun _ _ _ h => h) (Or.inl ⟨by rfl, ?hy4z0p1⟩) (by assumption) ?rest4z0p1
                case hy4z0p1 => (intro wx hSw; (try dsimp only at hSw); go_simp; try with_reducible rfl)
                try simp only [Act.put]
                refine wpAnyH_take (i := 5) (oi := _) (v := ?v5z0p1) rfl (by kernel_rfl) (by kernel_rfl) (by kernel_rfl) (fun _ _ _ h => h) (Or.inl ⟨by rfl, ?hy5z0p1⟩) (by assumption) ?rest5z0p1
                case hy5z0p1 => (intro wx hSw; (try dsimp only at hSw); go_simp; try with_reducible rfl)
                try simp only [Act.put]
                refine wpAnyH_take (i := 6) (oi := _) (v := ?v6z0p1) rfl (by kernel_rfl) (by kernel_rfl) (by kernel_rfl) (fun _ _ _ h => h) (Or.inl ⟨by rfl, ?hy6z0p1⟩) (by assumption) ?rest6z0p1
                case hy6z0p1 => (intro wx hSw; (try dsimp only at hSw); go_simp; try with_reducible rfl)
                try simp only [Act.put]
                refine wpAnyH_take (i := 7) (oi := _) (v := ?v7z0p1) rfl (by kernel_rfl) (by kernel_rfl) (by kernel_rfl) (fun _ _ _ h => h) (Or.inl ⟨by rfl, ?hy7z0p1⟩) (by assumption) ?rest7z0p1
                case hy7z0p1 => (intro wx hSw; (try dsimp only at hSw); go_simp; try with_reducible rfl)
                try simp only [Act.put]
                refine wpAnyH_take (i := 9) (oi := _) (v := ?v9z0p1) rfl (by kernel_rfl) (by kernel_rfl) (by kernel_rfl) (fun _ _ _ h => h) (Or.inl ⟨by rfl, ?hy9z0p1⟩) (by assumption) ?rest9z0p1
                case hy9z0p1 => (intro wx hSw; (try dsimp only at hSw); go_simp; try with_reducible rfl)
                try simp only [Act.put]
                refine wpAnyH_take (i := 10) (oi := _) (v := ?v10z0p1) rfl (by kernel_rfl) (by kernel_rfl) (by kernel_rfl) (fun _ _ _ h => h) (Or.inl ⟨by rfl, ?hy10z0p1⟩) (by assumption) ?rest10z0p1
                case hy10z0p1 => (intro wx hSw; (try dsimp only at hSw); go_simp; try with_reducible rfl)
                try simp only [Act.put]
                refine wpAnyH_ready (rs := [13]) (by kernel_rfl) (by simp) ?_
                refine AllReadyH.cons (o := _) rfl (fun K9 hK9 => ?_) AllReadyH.nil
                go_simp
                go_at_call 32; refine (word_calls _ (ok := ok) (by exact (hOW _ hb4).1) (by exact (hOW _ hb4).2)).mono ?_; rintro e w5 ⟨rfl, hb5⟩; have hb5 : Below w4.heap.size w4 w5 := ⟨hb5.os, hb5.tape, hb5.output, hb5.size, hb5.block⟩
                have hgb5 := (hb5.block g hgl).trans hgb4
                obtain ⟨k0, k1, hB5, hF5, hH5⟩ := aft _ (hb4.trans (hb5.mono hb4.size))
                refine hK9.out _ _ ⟨⟨k0, k1⟩, (cell_blk (j := 0) hgb5 (by decide +revert)).1⟩ (fun hHeld5 => ?_)
                try simp only [Act.put]
                refine wpAnyH_take (i := 14) (oi := _) (v := ?v14z0p1) rfl (by kernel_rfl) (by kernel_rfl) (by kernel_rfl) (fun _ _ _ h => h) (Or.inl ⟨by rfl, ?hy14z0p1⟩) (by assumption) ?rest14z0p1
                case hy14z0p1 => (intro wx hSw; (try dsimp only at hSw); go_simp; try with_reducible rfl)
                try simp only [Act.put]
                refine wpAnyH_take (i := 15) (oi := _) (v := ?v15z0p1) rfl (by kernel_rfl) (by kernel_rfl) (by kernel_rfl) (fun _ _ _ h => h) (Or.inl ⟨by rfl, ?hy15z0p1⟩) (by assumption) ?rest15z0p1
                case hy15z0p1 => (intro wx hSw; (try dsimp only at hSw); go_simp; try with_reducible rfl)
                try simp only [Act.put]
                refine wpAnyH_ready (rs := [16]) (by kernel_rfl) (by simp) ?_
                refine AllReadyH.cons (o := _) rfl (fun K9 hK9 => ?_) AllReadyH.nil
                go_simp
                go_at_call 30; refine (write_b _ (by exact hB5) (by exact (show (Lib.byteCells (pt (numsL c) Z 20)).length + _ ≤ 140737488355328 by rw [Lib.byteCells_length]; exact Nat.le_trans hl3 (by decide)))).mono ?_; rintro e w6 ⟨rfl, hB6, hF6, hO6⟩
                obtain ⟨m0, m1⟩ := aft2 _ (hO6 _ _ _ _ (by omega) (by decide) (by exact hH5))
                have hgne : g ≠ b := by have h9 : wr.heap.size ≤ g := hgr; omega
                have hgb6 := hO6 g _ tg _ hgne htg (by exact hgb5)
                refine hK9.out _ _ ⟨⟨m0, m1⟩, (cell_blk (j := 0) hgb6 (by decide +revert)).1⟩ (fun _ => ?_)
                refine wpAnyH_done (by kernel_rfl) ?_ _
                try simp only [Act.put]
                have hB7 : Bld C b (Lib.byteCells (pt (numsL c) Z 23)) w6 := by
                  rw [hlast, Lib.byteCells_append]
                  exact hB6
                have hle7 := hB7.le
                clear hlast hl3 hlen
                generalize pt (numsL c) Z 23 = L at *
                go_wp2_with (go_at_call 34; refine (Tryd.Builder_String_any_f b b _ _ (by exact hB7.string) (by omega)).mono ?_)
                rintro e w7 ⟨rfl, _, hb7⟩
                go_wp2
                go_ret
                refine ⟨?_, ?_⟩
                · rw [← mk_bs (textC c), htx]; rfl
                · have hx := hw03.size
                  have h6 : Below w.heap.size w3 w6 := by
                    have := hF5.trans ⟨hF6.os, hF6.tape, hF6.output, hF6.size, hF6.block⟩
                    exact ⟨this.os, this.tape, this.output, this.size, fun k hk => this.block k (by omega) (by omega)⟩
                  exact (hw03.trans h6).trans (hb7.mono (by omega))
              · rw [hp] at q20 aft aft2
                have hvp : valB (numsL c) Z 20 = ⟨#[108, 101, 97, 115, 116]⟩ := val_pol (p := 1) (by rw [hp]; rfl)
                rw [hvp, hvz] at hlast
                have hl3 := hlen
                rw [hlast, List.length_append, bs_length] at hl3
                go_wp2
                have x0 : ¬ 9223372036854775807 < 18 + Z.size := by omega
                have x1 : ¬ 9223372036854775807 < 18 + Z.size + 10 := by omega
                have x2 : ¬ 9223372036854775807 < 18 + Z.size + 10 + (yesW (nth (numsL c) 22 == 1)).size := by omega
                have x3 : ¬ 9223372036854775807 < 18 + Z.size + 10 + (yesW (nth (numsL c) 22 == 1)).size + 1 := by omega
                have hwp : IntKind.i64.wrap 1 = 1 := by decide
                refine wp_region_held_drew (S := fun w' => w'.cell? ⟨w.heap.size, 20, none⟩ = some (.int .i64 2) ∧ w'.cell? ⟨w.heap.size, 22, none⟩ = some (.bool (nth (numsL c) 22 == 1))) (by kernel_rfl) ⟨by go_keep, by go_keep⟩ (fun hHeld => ?_)
                refine wpAnyH_take (i := 1) (oi := _) (v := ?v1z0p2) rfl (by kernel_rfl) (by kernel_rfl) (by kernel_rfl) (fun _ _ _ h => h) (Or.inl ⟨by rfl, ?hy1z0p2⟩) (by assumption) ?rest1z0p2
                case hy1z0p2 => (intro wx hSw; (try dsimp only at hSw); go_simp; try with_reducible rfl)
                try simp only [Act.put]
                refine wpAnyH_take (i := 2) (oi := _) (v := ?v2z0p2) rfl (by kernel_rfl) (by kernel_rfl) (by kernel_rfl) (fun _ _ _ h => h) (Or.inl ⟨by rfl, ?hy2z0p2⟩) (by assumption) ?rest2z0p2
                case hy2z0p2 => (intro wx hSw; (try dsimp only at hSw); go_simp; try with_reducible rfl)
                try simp only [Act.put]
                refine wpAnyH_take (i := 3) (oi := _) (v := ?v3z0p2) rfl (by kernel_rfl) (by kernel_rfl) (by kernel_rfl) (fun _ _ _ h => h) (Or.inl ⟨by rfl, ?hy3z0p2⟩) (by assumption) ?rest3z0p2
                case hy3z0p2 => (intro wx hSw; (try dsimp only at hSw); go_simp; try with_reducible rfl)
                try simp only [Act.put]
                refine wpAnyH_take (i := 8) (oi := _) (v := ?v8z0p2) rfl (by kernel_rfl) (by kernel_rfl) (by kernel_rfl) (fun _ _ _ h => h) (Or.inl ⟨by rfl, ?hy8z0p2⟩) (by assumption) ?rest8z0p2
                case hy8z0p2 => (intro wx hSw; (try dsimp only at hSw); go_simp; try with_reducible rfl)
                try simp only [Act.put]
                refine wpAnyH_take (i := 11) (oi := _) (v := ?v11z0p2) rfl (by kernel_rfl) (by kernel_rfl) (by kernel_rfl) (fun _ _ _ h => h) (Or.inl ⟨by rfl, ?hy11z0p2⟩) (by assumption) ?rest11z0p2
                case hy11z0p2 => (intro wx hSw; (try dsimp only at hSw); go_simp; try with_reducible rfl)
                try simp only [Act.put]
                refine wpAnyH_take (i := 12) (oi := _) (v := ?v12z0p2) rfl (by kernel_rfl) (by kernel_rfl) (by kernel_rfl) (fun _ _ _ h => h) (Or.inl ⟨by rfl, ?hy12z0p2⟩) (by assumption) ?rest12z0p2
                case hy12z0p2 => (intro wx hSw; (try dsimp only at hSw); go_simp; try with_reducible rfl)
                try simp only [Act.put]
                refine wpAnyH_ready (rs := [0]) (by kernel_rfl) (by simp) ?_
                refine AllReadyH.cons (o := _) rfl (fun K9 hK9 => ?_) AllReadyH.nil
                go_simp
                go_at_call 33; refine (pols_calls _).mono ?_; rintro e w4 ⟨g, tg, rfl, hgb4, htg, hgr, hb4⟩; have hb4 : Below wr.heap.size wr w4 := ⟨hb4.os, hb4.tape, hb4.output, hb4.size, hb4.block⟩; obtain ⟨f0, f1, hB4, hF4, hH4⟩ := aft _ hb4
                have hgl := lt_of_some hgb4
                refine hK9.out _ _ ⟨f0, f1⟩ (fun _ => ?_)
                refine wpAnyH_weaken (S' := fun w' => (w'.cell? ⟨w.heap.size, 20, none⟩ = some (.int .i64 2) ∧ w'.cell? ⟨w.heap.size, 22, none⟩ = some (.bool (nth (numsL c) 22 == 1))) ∧ w'.cell? ⟨g, 1, none⟩ = some (.string ⟨#[108, 101, 97, 115, 116]⟩)) (fun _ h => h.1) _ _ _ _ ?_
                have hHeld4 : (w4.cell? ⟨w.heap.size, 20, none⟩ = some (.int .i64 2) ∧ w4.cell? ⟨w.heap.size, 22, none⟩ = some (.bool (nth (numsL c) 22 == 1))) ∧ w4.cell? ⟨g, 1, none⟩ = some (.string ⟨#[108, 101, 97, 115, 116]⟩) := ⟨⟨f0, f1⟩, (cell_blk (j := 1) hgb4 (by decide +revert)).1⟩
                try simp only [Act.put]
                refine wpAnyH_take (i := 4) (oi := _) (v := ?v4z0p2) rfl (by kernel_rfl) (by kernel_rfl) (by kernel_rfl) (fun _ _ _ h => h) (Or.inl ⟨by rfl, ?hy4z0p2⟩) (by assumption) ?rest4z0p2
                case hy4z0p2 => (intro wx hSw; (try dsimp only at hSw); go_simp; try with_reducible rfl)
                try simp only [Act.put]
                refine wpAnyH_take (i := 5) (oi := _) (v := ?v5z0p2) rfl (by kernel_rfl) (by kernel_rfl) (by kernel_rfl) (fun _ _ _ h => h) (Or.inl ⟨by rfl, ?hy5z0p2⟩) (by assumption) ?rest5z0p2
                case hy5z0p2 => (intro wx hSw; (try dsimp only at hSw); go_simp; try with_reducible rfl)
                try simp only [Act.put]
                refine wpAnyH_take (i := 6) (oi := _) (v := ?v6z0p2) rfl (by kernel_rfl) (by kernel_rfl) (by kernel_rfl) (fun _ _ _ h => h) (Or.inl ⟨by rfl, ?hy6z0p2⟩) (by assumption) ?rest6z0p2
                case hy6z0p2 => (intro wx hSw; (try dsimp only at hSw); go_simp; try with_reducible rfl)
                try simp only [Act.put]
                refine wpAnyH_take (i := 7) (oi := _) (v := ?v7z0p2) rfl (by kernel_rfl) (by kernel_rfl) (by kernel_rfl) (fun _ _ _ h => h) (Or.inl ⟨by rfl, ?hy7z0p2⟩) (by assumption) ?rest7z0p2
                case hy7z0p2 => (intro wx hSw; (try dsimp only at hSw); go_simp; try with_reducible rfl)
                try simp only [Act.put]
                refine wpAnyH_take (i := 9) (oi := _) (v := ?v9z0p2) rfl (by kernel_rfl) (by kernel_rfl) (by kernel_rfl) (fun _ _ _ h => h) (Or.inl ⟨by rfl, ?hy9z0p2⟩) (by assumption) ?rest9z0p2
                case hy9z0p2 => (intro wx hSw; (try dsimp only at hSw); go_simp; try with_reducible rfl)
                try simp only [Act.put]
                refine wpAnyH_take (i := 10) (oi := _) (v := ?v10z0p2) rfl (by kernel_rfl) (by kernel_rfl) (by kernel_rfl) (fun _ _ _ h => h) (Or.inl ⟨by rfl, ?hy10z0p2⟩) (by assumption) ?rest10z0p2
                case hy10z0p2 => (intro wx hSw; (try dsimp only at hSw); go_simp; try with_reducible rfl)
                try simp only [Act.put]
                refine wpAnyH_ready (rs := [13]) (by kernel_rfl) (by simp) ?_
                refine AllReadyH.cons (o := _) rfl (fun K9 hK9 => ?_) AllReadyH.nil
                go_simp
                go_at_call 32; refine (word_calls _ (ok := ok) (by exact (hOW _ hb4).1) (by exact (hOW _ hb4).2)).mono ?_; rintro e w5 ⟨rfl, hb5⟩; have hb5 : Below w4.heap.size w4 w5 := ⟨hb5.os, hb5.tape, hb5.output, hb5.size, hb5.block⟩
                have hgb5 := (hb5.block g hgl).trans hgb4
                obtain ⟨k0, k1, hB5, hF5, hH5⟩ := aft _ (hb4.trans (hb5.mono hb4.size))
                refine hK9.out _ _ ⟨⟨k0, k1⟩, (cell_blk (j := 1) hgb5 (by decide +revert)).1⟩ (fun hHeld5 => ?_)
                try simp only [Act.put]
                refine wpAnyH_take (i := 14) (oi := _) (v := ?v14z0p2) rfl (by kernel_rfl) (by kernel_rfl) (by kernel_rfl) (fun _ _ _ h => h) (Or.inl ⟨by rfl, ?hy14z0p2⟩) (by assumption) ?rest14z0p2
                case hy14z0p2 => (intro wx hSw; (try dsimp only at hSw); go_simp; try with_reducible rfl)
                try simp only [Act.put]
                refine wpAnyH_take (i := 15) (oi := _) (v := ?v15z0p2) rfl (by kernel_rfl) (by kernel_rfl) (by kernel_rfl) (fun _ _ _ h => h) (Or.inl ⟨by rfl, ?hy15z0p2⟩) (by assumption) ?rest15z0p2
                case hy15z0p2 => (intro wx hSw; (try dsimp only at hSw); go_simp; try with_reducible rfl)
                try simp only [Act.put]
                refine wpAnyH_ready (rs := [16]) (by kernel_rfl) (by simp) ?_
                refine AllReadyH.cons (o := _) rfl (fun K9 hK9 => ?_) AllReadyH.nil
                go_simp
                go_at_call 30; refine (write_b _ (by exact hB5) (by exact (show (Lib.byteCells (pt (numsL c) Z 20)).length + _ ≤ 140737488355328 by rw [Lib.byteCells_length]; exact Nat.le_trans hl3 (by decide)))).mono ?_; rintro e w6 ⟨rfl, hB6, hF6, hO6⟩
                obtain ⟨m0, m1⟩ := aft2 _ (hO6 _ _ _ _ (by omega) (by decide) (by exact hH5))
                have hgne : g ≠ b := by have h9 : wr.heap.size ≤ g := hgr; omega
                have hgb6 := hO6 g _ tg _ hgne htg (by exact hgb5)
                refine hK9.out _ _ ⟨⟨m0, m1⟩, (cell_blk (j := 1) hgb6 (by decide +revert)).1⟩ (fun _ => ?_)
                refine wpAnyH_done (by kernel_rfl) ?_ _
                try simp only [Act.put]
                have hB7 : Bld C b (Lib.byteCells (pt (numsL c) Z 23)) w6 := by
                  rw [hlast, Lib.byteCells_append]
                  exact hB6
                have hle7 := hB7.le
                clear hlast hl3 hlen
                generalize pt (numsL c) Z 23 = L at *
                go_wp2_with (go_at_call 34; refine (Tryd.Builder_String_any_f b b _ _ (by exact hB7.string) (by omega)).mono ?_)
                rintro e w7 ⟨rfl, _, hb7⟩
                go_wp2
                go_ret
                refine ⟨?_, ?_⟩
                · rw [← mk_bs (textC c), htx]; rfl
                · have hx := hw03.size
                  have h6 : Below w.heap.size w3 w6 := by
                    have := hF5.trans ⟨hF6.os, hF6.tape, hF6.output, hF6.size, hF6.block⟩
                    exact ⟨this.os, this.tape, this.output, this.size, fun k hk => this.block k (by omega) (by omega)⟩
                  exact (hw03.trans h6).trans (hb7.mono (by omega))
              · rw [hp] at q20 aft aft2
                have hvp : valB (numsL c) Z 20 = ⟨#[114, 105, 110, 103]⟩ := val_pol (p := 2) (by rw [hp]; rfl)
                rw [hvp, hvz] at hlast
                have hl3 := hlen
                rw [hlast, List.length_append, bs_length] at hl3
                go_wp2
                have x0 : ¬ 9223372036854775807 < 17 + Z.size := by omega
                have x1 : ¬ 9223372036854775807 < 17 + Z.size + 10 := by omega
                have x2 : ¬ 9223372036854775807 < 17 + Z.size + 10 + (yesW (nth (numsL c) 22 == 1)).size := by omega
                have x3 : ¬ 9223372036854775807 < 17 + Z.size + 10 + (yesW (nth (numsL c) 22 == 1)).size + 1 := by omega
                have hwp : IntKind.i64.wrap 2 = 2 := by decide
                refine wp_region_held_drew (S := fun w' => w'.cell? ⟨w.heap.size, 20, none⟩ = some (.int .i64 3) ∧ w'.cell? ⟨w.heap.size, 22, none⟩ = some (.bool (nth (numsL c) 22 == 1))) (by kernel_rfl) ⟨by go_keep, by go_keep⟩ (fun hHeld => ?_)
                refine wpAnyH_take (i := 1) (oi := _) (v := ?v1z0p3) rfl (by kernel_rfl) (by kernel_rfl) (by kernel_rfl) (fun _ _ _ h => h) (Or.inl ⟨by rfl, ?hy1z0p3⟩) (by assumption) ?rest1z0p3
                case hy1z0p3 => (intro wx hSw; (try dsimp only at hSw); go_simp; try with_reducible rfl)
                try simp only [Act.put]
                refine wpAnyH_take (i := 2) (oi := _) (v := ?v2z0p3) rfl (by kernel_rfl) (by kernel_rfl) (by kernel_rfl) (fun _ _ _ h => h) (Or.inl ⟨by rfl, ?hy2z0p3⟩) (by assumption) ?rest2z0p3
                case hy2z0p3 => (intro wx hSw; (try dsimp only at hSw); go_simp; try with_reducible rfl)
                try simp only [Act.put]
                refine wpAnyH_take (i := 3) (oi := _) (v := ?v3z0p3) rfl (by kernel_rfl) (by kernel_rfl) (by kernel_rfl) (fun _ _ _ h => h) (Or.inl ⟨by rfl, ?hy3z0p3⟩) (by assumption) ?rest3z0p3
                case hy3z0p3 => (intro wx hSw; (try dsimp only at hSw); go_simp; try with_reducible rfl)
                try simp only [Act.put]
                refine wpAnyH_take (i := 8) (oi := _) (v := ?v8z0p3) rfl (by kernel_rfl) (by kernel_rfl) (by kernel_rfl) (fun _ _ _ h => h) (Or.inl ⟨by rfl, ?hy8z0p3⟩) (by assumption) ?rest8z0p3
                case hy8z0p3 => (intro wx hSw; (try dsimp only at hSw); go_simp; try with_reducible rfl)
                try simp only [Act.put]
                refine wpAnyH_take (i := 11) (oi := _) (v := ?v11z0p3) rfl (by kernel_rfl) (by kernel_rfl) (by kernel_rfl) (fun _ _ _ h => h) (Or.inl ⟨by rfl, ?hy11z0p3⟩) (by assumption) ?rest11z0p3
                case hy11z0p3 => (intro wx hSw; (try dsimp only at hSw); go_simp; try with_reducible rfl)
                try simp only [Act.put]
                refine wpAnyH_take (i := 12) (oi := _) (v := ?v12z0p3) rfl (by kernel_rfl) (by kernel_rfl) (by kernel_rfl) (fun _ _ _ h => h) (Or.inl ⟨by rfl, ?hy12z0p3⟩) (by assumption) ?rest12z0p3
                case hy12z0p3 => (intro wx hSw; (try dsimp only at hSw); go_simp; try with_reducible rfl)
                try simp only [Act.put]
                refine wpAnyH_ready (rs := [0]) (by kernel_rfl) (by simp) ?_
                refine AllReadyH.cons (o := _) rfl (fun K9 hK9 => ?_) AllReadyH.nil
                go_simp
                go_at_call 33; refine (pols_calls _).mono ?_; rintro e w4 ⟨g, tg, rfl, hgb4, htg, hgr, hb4⟩; have hb4 : Below wr.heap.size wr w4 := ⟨hb4.os, hb4.tape, hb4.output, hb4.size, hb4.block⟩; obtain ⟨f0, f1, hB4, hF4, hH4⟩ := aft _ hb4
                have hgl := lt_of_some hgb4
                refine hK9.out _ _ ⟨f0, f1⟩ (fun _ => ?_)
                refine wpAnyH_weaken (S' := fun w' => (w'.cell? ⟨w.heap.size, 20, none⟩ = some (.int .i64 3) ∧ w'.cell? ⟨w.heap.size, 22, none⟩ = some (.bool (nth (numsL c) 22 == 1))) ∧ w'.cell? ⟨g, 2, none⟩ = some (.string ⟨#[114, 105, 110, 103]⟩)) (fun _ h => h.1) _ _ _ _ ?_
                have hHeld4 : (w4.cell? ⟨w.heap.size, 20, none⟩ = some (.int .i64 3) ∧ w4.cell? ⟨w.heap.size, 22, none⟩ = some (.bool (nth (numsL c) 22 == 1))) ∧ w4.cell? ⟨g, 2, none⟩ = some (.string ⟨#[114, 105, 110, 103]⟩) := ⟨⟨f0, f1⟩, (cell_blk (j := 2) hgb4 (by decide +revert)).1⟩
                try simp only [Act.put]
                refine wpAnyH_take (i := 4) (oi := _) (v := ?v4z0p3) rfl (by kernel_rfl) (by kernel_rfl) (by kernel_rfl) (fun _ _ _ h => h) (Or.inl ⟨by rfl, ?hy4z0p3⟩) (by assumption) ?rest4z0p3
                case hy4z0p3 => (intro wx hSw; (try dsimp only at hSw); go_simp; try with_reducible rfl)
                try simp only [Act.put]
                refine wpAnyH_take (i := 5) (oi := _) (v := ?v5z0p3) rfl (by kernel_rfl) (by kernel_rfl) (by kernel_rfl) (fun _ _ _ h => h) (Or.inl ⟨by rfl, ?hy5z0p3⟩) (by assumption) ?rest5z0p3
                case hy5z0p3 => (intro wx hSw; (try dsimp only at hSw); go_simp; try with_reducible rfl)
                try simp only [Act.put]
                refine wpAnyH_take (i := 6) (oi := _) (v := ?v6z0p3) rfl (by kernel_rfl) (by kernel_rfl) (by kernel_rfl) (fun _ _ _ h => h) (Or.inl ⟨by rfl, ?hy6z0p3⟩) (by assumption) ?rest6z0p3
                case hy6z0p3 => (intro wx hSw; (try dsimp only at hSw); go_simp; try with_reducible rfl)
                try simp only [Act.put]
                refine wpAnyH_take (i := 7) (oi := _) (v := ?v7z0p3) rfl (by kernel_rfl) (by kernel_rfl) (by kernel_rfl) (fun _ _ _ h => h) (Or.inl ⟨by rfl, ?hy7z0p3⟩) (by assumption) ?rest7z0p3
                case hy7z0p3 => (intro wx hSw; (try dsimp only at hSw); go_simp; try with_reducible rfl)
                try simp only [Act.put]
                refine wpAnyH_take (i := 9) (oi := _) (v := ?v9z0p3) rfl (by kernel_rfl) (by kernel_rfl) (by kernel_rfl) (fun _ _ _ h => h) (Or.inl ⟨by rfl, ?hy9z0p3⟩) (by assumption) ?rest9z0p3
                case hy9z0p3 => (intro wx hSw; (try dsimp only at hSw); go_simp; try with_reducible rfl)
                try simp only [Act.put]
                refine wpAnyH_take (i := 10) (oi := _) (v := ?v10z0p3) rfl (by kernel_rfl) (by kernel_rfl) (by kernel_rfl) (fun _ _ _ h => h) (Or.inl ⟨by rfl, ?hy10z0p3⟩) (by assumption) ?rest10z0p3
                case hy10z0p3 => (intro wx hSw; (try dsimp only at hSw); go_simp; try with_reducible rfl)
                try simp only [Act.put]
                refine wpAnyH_ready (rs := [13]) (by kernel_rfl) (by simp) ?_
                refine AllReadyH.cons (o := _) rfl (fun K9 hK9 => ?_) AllReadyH.nil
                go_simp
                go_at_call 32; refine (word_calls _ (ok := ok) (by exact (hOW _ hb4).1) (by exact (hOW _ hb4).2)).mono ?_; rintro e w5 ⟨rfl, hb5⟩; have hb5 : Below w4.heap.size w4 w5 := ⟨hb5.os, hb5.tape, hb5.output, hb5.size, hb5.block⟩
                have hgb5 := (hb5.block g hgl).trans hgb4
                obtain ⟨k0, k1, hB5, hF5, hH5⟩ := aft _ (hb4.trans (hb5.mono hb4.size))
                refine hK9.out _ _ ⟨⟨k0, k1⟩, (cell_blk (j := 2) hgb5 (by decide +revert)).1⟩ (fun hHeld5 => ?_)
                try simp only [Act.put]
                refine wpAnyH_take (i := 14) (oi := _) (v := ?v14z0p3) rfl (by kernel_rfl) (by kernel_rfl) (by kernel_rfl) (fun _ _ _ h => h) (Or.inl ⟨by rfl, ?hy14z0p3⟩) (by assumption) ?rest14z0p3
                case hy14z0p3 => (intro wx hSw; (try dsimp only at hSw); go_simp; try with_reducible rfl)
                try simp only [Act.put]
                refine wpAnyH_take (i := 15) (oi := _) (v := ?v15z0p3) rfl (by kernel_rfl) (by kernel_rfl) (by kernel_rfl) (fun _ _ _ h => h) (Or.inl ⟨by rfl, ?hy15z0p3⟩) (by assumption) ?rest15z0p3
                case hy15z0p3 => (intro wx hSw; (try dsimp only at hSw); go_simp; try with_reducible rfl)
                try simp only [Act.put]
                refine wpAnyH_ready (rs := [16]) (by kernel_rfl) (by simp) ?_
                refine AllReadyH.cons (o := _) rfl (fun K9 hK9 => ?_) AllReadyH.nil
                go_simp
                go_at_call 30; refine (write_b _ (by exact hB5) (by exact (show (Lib.byteCells (pt (numsL c) Z 20)).length + _ ≤ 140737488355328 by rw [Lib.byteCells_length]; exact Nat.le_trans hl3 (by decide)))).mono ?_; rintro e w6 ⟨rfl, hB6, hF6, hO6⟩
                obtain ⟨m0, m1⟩ := aft2 _ (hO6 _ _ _ _ (by omega) (by decide) (by exact hH5))
                have hgne : g ≠ b := by have h9 : wr.heap.size ≤ g := hgr; omega
                have hgb6 := hO6 g _ tg _ hgne htg (by exact hgb5)
                refine hK9.out _ _ ⟨⟨m0, m1⟩, (cell_blk (j := 2) hgb6 (by decide +revert)).1⟩ (fun _ => ?_)
                refine wpAnyH_done (by kernel_rfl) ?_ _
                try simp only [Act.put]
                have hB7 : Bld C b (Lib.byteCells (pt (numsL c) Z 23)) w6 := by
                  rw [hlast, Lib.byteCells_append]
                  exact hB6
                have hle7 := hB7.le
                clear hlast hl3 hlen
                generalize pt (numsL c) Z 23 = L at *
                go_wp2_with (go_at_call 34; refine (Tryd.Builder_String_any_f b b _ _ (by exact hB7.string) (by omega)).mono ?_)
                rintro e w7 ⟨rfl, _, hb7⟩
                go_wp2
                go_ret
                refine ⟨?_, ?_⟩
                · rw [← mk_bs (textC c), htx]; rfl
                · have hx := hw03.size
                  have h6 : Below w.heap.size w3 w6 := by
                    have := hF5.trans ⟨hF6.os, hF6.tape, hF6.output, hF6.size, hF6.block⟩
                    exact ⟨this.os, this.tape, this.output, this.size, fun k hk => this.block k (by omega) (by omega)⟩
                  exact (hw03.trans h6).trans (hb7.mono (by omega))
            · have hzn : Z.size = 0 := by
                rw [toList_bs] at hz
                have h2 : bs Z = [] := eq_of_beq hz
                rw [← bs_length, h2]; rfl
              rw [if_pos hzn] at hvz
              rcases (by omega : nth (numsL c) 20 = 1 ∨ nth (numsL c) 20 = 2 ∨ nth (numsL c) 20 = 3) with hp | hp | hp
              · rw [hp] at q20 aft aft2
                have hvp : valB (numsL c) Z 20 = ⟨#[114, 111, 117, 110, 100]⟩ := val_pol (p := 0) (by rw [hp]; rfl)
                rw [hvp, hvz] at hlast
                have hl3 := hlen
                rw [hlast, List.length_append, bs_length] at hl3
                go_wp2
                have x0 : ¬ 9223372036854775807 < 29 + (yesW (nth (numsL c) 22 == 1)).size := by omega
                have x1 : ¬ 9223372036854775807 < 29 + (yesW (nth (numsL c) 22 == 1)).size + 1 := by omega
                have hwp : IntKind.i64.wrap 0 = 0 := by decide
                refine wp_region_held_drew (S := fun w' => w'.cell? ⟨w.heap.size, 20, none⟩ = some (.int .i64 1) ∧ w'.cell? ⟨w.heap.size, 22, none⟩ = some (.bool (nth (numsL c) 22 == 1))) (by kernel_rfl) ⟨by go_keep, by go_keep⟩ (fun hHeld => ?_)
                refine wpAnyH_take (i := 1) (oi := _) (v := ?v1z1p1) rfl (by kernel_rfl) (by kernel_rfl) (by kernel_rfl) (fun _ _ _ h => h) (Or.inl ⟨by rfl, ?hy1z1p1⟩) (by assumption) ?rest1z1p1
                case hy1z1p1 => (intro wx hSw; (try dsimp only at hSw); go_simp; try with_reducible rfl)
                try simp only [Act.put]
                refine wpAnyH_take (i := 2) (oi := _) (v := ?v2z1p1) rfl (by kernel_rfl) (by kernel_rfl) (by kernel_rfl) (fun _ _ _ h => h) (Or.inl ⟨by rfl, ?hy2z1p1⟩) (by assumption) ?rest2z1p1
                case hy2z1p1 => (intro wx hSw; (try dsimp only at hSw); go_simp; try with_reducible rfl)
                try simp only [Act.put]
                refine wpAnyH_take (i := 3) (oi := _) (v := ?v3z1p1) rfl (by kernel_rfl) (by kernel_rfl) (by kernel_rfl) (fun _ _ _ h => h) (Or.inl ⟨by rfl, ?hy3z1p1⟩) (by assumption) ?rest3z1p1
                case hy3z1p1 => (intro wx hSw; (try dsimp only at hSw); go_simp; try with_reducible rfl)
                try simp only [Act.put]
                refine wpAnyH_take (i := 8) (oi := _) (v := ?v8z1p1) rfl (by kernel_rfl) (by kernel_rfl) (by kernel_rfl) (fun _ _ _ h => h) (Or.inl ⟨by rfl, ?hy8z1p1⟩) (by assumption) ?rest8z1p1
                case hy8z1p1 => (intro wx hSw; (try dsimp only at hSw); go_simp; try with_reducible rfl)
                try simp only [Act.put]
                refine wpAnyH_take (i := 11) (oi := _) (v := ?v11z1p1) rfl (by kernel_rfl) (by kernel_rfl) (by kernel_rfl) (fun _ _ _ h => h) (Or.inl ⟨by rfl, ?hy11z1p1⟩) (by assumption) ?rest11z1p1
                case hy11z1p1 => (intro wx hSw; (try dsimp only at hSw); go_simp; try with_reducible rfl)
                try simp only [Act.put]
                refine wpAnyH_take (i := 12) (oi := _) (v := ?v12z1p1) rfl (by kernel_rfl) (by kernel_rfl) (by kernel_rfl) (fun _ _ _ h => h) (Or.inl ⟨by rfl, ?hy12z1p1⟩) (by assumption) ?rest12z1p1
                case hy12z1p1 => (intro wx hSw; (try dsimp only at hSw); go_simp; try with_reducible rfl)
                try simp only [Act.put]
                refine wpAnyH_ready (rs := [0]) (by kernel_rfl) (by simp) ?_
                refine AllReadyH.cons (o := _) rfl (fun K9 hK9 => ?_) AllReadyH.nil
                go_simp
                go_at_call 33; refine (pols_calls _).mono ?_; rintro e w4 ⟨g, tg, rfl, hgb4, htg, hgr, hb4⟩; have hb4 : Below wr.heap.size wr w4 := ⟨hb4.os, hb4.tape, hb4.output, hb4.size, hb4.block⟩; obtain ⟨f0, f1, hB4, hF4, hH4⟩ := aft _ hb4
                have hgl := lt_of_some hgb4
                refine hK9.out _ _ ⟨f0, f1⟩ (fun _ => ?_)
                refine wpAnyH_weaken (S' := fun w' => (w'.cell? ⟨w.heap.size, 20, none⟩ = some (.int .i64 1) ∧ w'.cell? ⟨w.heap.size, 22, none⟩ = some (.bool (nth (numsL c) 22 == 1))) ∧ w'.cell? ⟨g, 0, none⟩ = some (.string ⟨#[114, 111, 117, 110, 100]⟩)) (fun _ h => h.1) _ _ _ _ ?_
                have hHeld4 : (w4.cell? ⟨w.heap.size, 20, none⟩ = some (.int .i64 1) ∧ w4.cell? ⟨w.heap.size, 22, none⟩ = some (.bool (nth (numsL c) 22 == 1))) ∧ w4.cell? ⟨g, 0, none⟩ = some (.string ⟨#[114, 111, 117, 110, 100]⟩) := ⟨⟨f0, f1⟩, (cell_blk (j := 0) hgb4 (by decide +revert)).1⟩
                try simp only [Act.put]
                refine wpAnyH_take (i := 4) (oi := _) (v := ?v4z1p1) rfl (by kernel_rfl) (by kernel_rfl) (by kernel_rfl) (fun _ _ _ h => h) (Or.inl ⟨by rfl, ?hy4z1p1⟩) (by assumption) ?rest4z1p1
                case hy4z1p1 => (intro wx hSw; (try dsimp only at hSw); go_simp; try with_reducible rfl)
                try simp only [Act.put]
                refine wpAnyH_take (i := 5) (oi := _) (v := ?v5z1p1) rfl (by kernel_rfl) (by kernel_rfl) (by kernel_rfl) (fun _ _ _ h => h) (Or.inl ⟨by rfl, ?hy5z1p1⟩) (by assumption) ?rest5z1p1
                case hy5z1p1 => (intro wx hSw; (try dsimp only at hSw); go_simp; try with_reducible rfl)
                try simp only [Act.put]
                refine wpAnyH_take (i := 6) (oi := _) (v := ?v6z1p1) rfl (by kernel_rfl) (by kernel_rfl) (by kernel_rfl) (fun _ _ _ h => h) (Or.inl ⟨by rfl, ?hy6z1p1⟩) (by assumption) ?rest6z1p1
                case hy6z1p1 => (intro wx hSw; (try dsimp only at hSw); go_simp; try with_reducible rfl)
                try simp only [Act.put]
                refine wpAnyH_take (i := 7) (oi := _) (v := ?v7z1p1) rfl (by kernel_rfl) (by kernel_rfl) (by kernel_rfl) (fun _ _ _ h => h) (Or.inl ⟨by rfl, ?hy7z1p1⟩) (by assumption) ?rest7z1p1
                case hy7z1p1 => (intro wx hSw; (try dsimp only at hSw); go_simp; try with_reducible rfl)
                try simp only [Act.put]
                refine wpAnyH_take (i := 9) (oi := _) (v := ?v9z1p1) rfl (by kernel_rfl) (by kernel_rfl) (by kernel_rfl) (fun _ _ _ h => h) (Or.inl ⟨by rfl, ?hy9z1p1⟩) (by assumption) ?rest9z1p1
                case hy9z1p1 => (intro wx hSw; (try dsimp only at hSw); go_simp; try with_reducible rfl)
                try simp only [Act.put]
                refine wpAnyH_take (i := 10) (oi := _) (v := ?v10z1p1) rfl (by kernel_rfl) (by kernel_rfl) (by kernel_rfl) (fun _ _ _ h => h) (Or.inl ⟨by rfl, ?hy10z1p1⟩) (by assumption) ?rest10z1p1
                case hy10z1p1 => (intro wx hSw; (try dsimp only at hSw); go_simp; try with_reducible rfl)
                try simp only [Act.put]
                refine wpAnyH_ready (rs := [13]) (by kernel_rfl) (by simp) ?_
                refine AllReadyH.cons (o := _) rfl (fun K9 hK9 => ?_) AllReadyH.nil
                go_simp
                go_at_call 32; refine (word_calls _ (ok := ok) (by exact (hOW _ hb4).1) (by exact (hOW _ hb4).2)).mono ?_; rintro e w5 ⟨rfl, hb5⟩; have hb5 : Below w4.heap.size w4 w5 := ⟨hb5.os, hb5.tape, hb5.output, hb5.size, hb5.block⟩
                have hgb5 := (hb5.block g hgl).trans hgb4
                obtain ⟨k0, k1, hB5, hF5, hH5⟩ := aft _ (hb4.trans (hb5.mono hb4.size))
                refine hK9.out _ _ ⟨⟨k0, k1⟩, (cell_blk (j := 0) hgb5 (by decide +revert)).1⟩ (fun hHeld5 => ?_)
                try simp only [Act.put]
                refine wpAnyH_take (i := 14) (oi := _) (v := ?v14z1p1) rfl (by kernel_rfl) (by kernel_rfl) (by kernel_rfl) (fun _ _ _ h => h) (Or.inl ⟨by rfl, ?hy14z1p1⟩) (by assumption) ?rest14z1p1
                case hy14z1p1 => (intro wx hSw; (try dsimp only at hSw); go_simp; try with_reducible rfl)
                try simp only [Act.put]
                refine wpAnyH_take (i := 15) (oi := _) (v := ?v15z1p1) rfl (by kernel_rfl) (by kernel_rfl) (by kernel_rfl) (fun _ _ _ h => h) (Or.inl ⟨by rfl, ?hy15z1p1⟩) (by assumption) ?rest15z1p1
                case hy15z1p1 => (intro wx hSw; (try dsimp only at hSw); go_simp; try with_reducible rfl)
                try simp only [Act.put]
                refine wpAnyH_ready (rs := [16]) (by kernel_rfl) (by simp) ?_
                refine AllReadyH.cons (o := _) rfl (fun K9 hK9 => ?_) AllReadyH.nil
                go_simp
                go_at_call 30; refine (write_b _ (by exact hB5) (by exact (show (Lib.byteCells (pt (numsL c) Z 20)).length + _ ≤ 140737488355328 by rw [Lib.byteCells_length]; exact Nat.le_trans hl3 (by decide)))).mono ?_; rintro e w6 ⟨rfl, hB6, hF6, hO6⟩
                obtain ⟨m0, m1⟩ := aft2 _ (hO6 _ _ _ _ (by omega) (by decide) (by exact hH5))
                have hgne : g ≠ b := by have h9 : wr.heap.size ≤ g := hgr; omega
                have hgb6 := hO6 g _ tg _ hgne htg (by exact hgb5)
                refine hK9.out _ _ ⟨⟨m0, m1⟩, (cell_blk (j := 0) hgb6 (by decide +revert)).1⟩ (fun _ => ?_)
                refine wpAnyH_done (by kernel_rfl) ?_ _
                try simp only [Act.put]
                have hB7 : Bld C b (Lib.byteCells (pt (numsL c) Z 23)) w6 := by
                  rw [hlast, Lib.byteCells_append]
                  exact hB6
                have hle7 := hB7.le
                clear hlast hl3 hlen
                generalize pt (numsL c) Z 23 = L at *
                go_wp2_with (go_at_call 34; refine (Tryd.Builder_String_any_f b b _ _ (by exact hB7.string) (by omega)).mono ?_)
                rintro e w7 ⟨rfl, _, hb7⟩
                go_wp2
                go_ret
                refine ⟨?_, ?_⟩
                · rw [← mk_bs (textC c), htx]; rfl
                · have hx := hw03.size
                  have h6 : Below w.heap.size w3 w6 := by
                    have := hF5.trans ⟨hF6.os, hF6.tape, hF6.output, hF6.size, hF6.block⟩
                    exact ⟨this.os, this.tape, this.output, this.size, fun k hk => this.block k (by omega) (by omega)⟩
                  exact (hw03.trans h6).trans (hb7.mono (by omega))
              · rw [hp] at q20 aft aft2
                have hvp : valB (numsL c) Z 20 = ⟨#[108, 101, 97, 115, 116]⟩ := val_pol (p := 1) (by rw [hp]; rfl)
                rw [hvp, hvz] at hlast
                have hl3 := hlen
                rw [hlast, List.length_append, bs_length] at hl3
                go_wp2
                have x0 : ¬ 9223372036854775807 < 29 + (yesW (nth (numsL c) 22 == 1)).size := by omega
                have x1 : ¬ 9223372036854775807 < 29 + (yesW (nth (numsL c) 22 == 1)).size + 1 := by omega
                have hwp : IntKind.i64.wrap 1 = 1 := by decide
                refine wp_region_held_drew (S := fun w' => w'.cell? ⟨w.heap.size, 20, none⟩ = some (.int .i64 2) ∧ w'.cell? ⟨w.heap.size, 22, none⟩ = some (.bool (nth (numsL c) 22 == 1))) (by kernel_rfl) ⟨by go_keep, by go_keep⟩ (fun hHeld => ?_)
                refine wpAnyH_take (i := 1) (oi := _) (v := ?v1z1p2) rfl (by kernel_rfl) (by kernel_rfl) (by kernel_rfl) (fun _ _ _ h => h) (Or.inl ⟨by rfl, ?hy1z1p2⟩) (by assumption) ?rest1z1p2
                case hy1z1p2 => (intro wx hSw; (try dsimp only at hSw); go_simp; try with_reducible rfl)
                try simp only [Act.put]
                refine wpAnyH_take (i := 2) (oi := _) (v := ?v2z1p2) rfl (by kernel_rfl) (by kernel_rfl) (by kernel_rfl) (fun _ _ _ h => h) (Or.inl ⟨by rfl, ?hy2z1p2⟩) (by assumption) ?rest2z1p2
                case hy2z1p2 => (intro wx hSw; (try dsimp only at hSw); go_simp; try with_reducible rfl)
                try simp only [Act.put]
                refine wpAnyH_take (i := 3) (oi := _) (v := ?v3z1p2) rfl (by kernel_rfl) (by kernel_rfl) (by kernel_rfl) (fun _ _ _ h => h) (Or.inl ⟨by rfl, ?hy3z1p2⟩) (by assumption) ?rest3z1p2
                case hy3z1p2 => (intro wx hSw; (try dsimp only at hSw); go_simp; try with_reducible rfl)
                try simp only [Act.put]
                refine wpAnyH_take (i := 8) (oi := _) (v := ?v8z1p2) rfl (by kernel_rfl) (by kernel_rfl) (by kernel_rfl) (fun _ _ _ h => h) (Or.inl ⟨by rfl, ?hy8z1p2⟩) (by assumption) ?rest8z1p2
                case hy8z1p2 => (intro wx hSw; (try dsimp only at hSw); go_simp; try with_reducible rfl)
                try simp only [Act.put]
                refine wpAnyH_take (i := 11) (oi := _) (v := ?v11z1p2) rfl (by kernel_rfl) (by kernel_rfl) (by kernel_rfl) (fun _ _ _ h => h) (Or.inl ⟨by rfl, ?hy11z1p2⟩) (by assumption) ?rest11z1p2
                case hy11z1p2 => (intro wx hSw; (try dsimp only at hSw); go_simp; try with_reducible rfl)
                try simp only [Act.put]
                refine wpAnyH_take (i := 12) (oi := _) (v := ?v12z1p2) rfl (by kernel_rfl) (by kernel_rfl) (by kernel_rfl) (fun _ _ _ h => h) (Or.inl ⟨by rfl, ?hy12z1p2⟩) (by assumption) ?rest12z1p2
                case hy12z1p2 => (intro wx hSw; (try dsimp only at hSw); go_simp; try with_reducible rfl)
                try simp only [Act.put]
                refine wpAnyH_ready (rs := [0]) (by kernel_rfl) (by simp) ?_
                refine AllReadyH.cons (o := _) rfl (fun K9 hK9 => ?_) AllReadyH.nil
                go_simp
                go_at_call 33; refine (pols_calls _).mono ?_; rintro e w4 ⟨g, tg, rfl, hgb4, htg, hgr, hb4⟩; have hb4 : Below wr.heap.size wr w4 := ⟨hb4.os, hb4.tape, hb4.output, hb4.size, hb4.block⟩; obtain ⟨f0, f1, hB4, hF4, hH4⟩ := aft _ hb4
                have hgl := lt_of_some hgb4
                refine hK9.out _ _ ⟨f0, f1⟩ (fun _ => ?_)
                refine wpAnyH_weaken (S' := fun w' => (w'.cell? ⟨w.heap.size, 20, none⟩ = some (.int .i64 2) ∧ w'.cell? ⟨w.heap.size, 22, none⟩ = some (.bool (nth (numsL c) 22 == 1))) ∧ w'.cell? ⟨g, 1, none⟩ = some (.string ⟨#[108, 101, 97, 115, 116]⟩)) (fun _ h => h.1) _ _ _ _ ?_
                have hHeld4 : (w4.cell? ⟨w.heap.size, 20, none⟩ = some (.int .i64 2) ∧ w4.cell? ⟨w.heap.size, 22, none⟩ = some (.bool (nth (numsL c) 22 == 1))) ∧ w4.cell? ⟨g, 1, none⟩ = some (.string ⟨#[108, 101, 97, 115, 116]⟩) := ⟨⟨f0, f1⟩, (cell_blk (j := 1) hgb4 (by decide +revert)).1⟩
                try simp only [Act.put]
                refine wpAnyH_take (i := 4) (oi := _) (v := ?v4z1p2) rfl (by kernel_rfl) (by kernel_rfl) (by kernel_rfl) (fun _ _ _ h => h) (Or.inl ⟨by rfl, ?hy4z1p2⟩) (by assumption) ?rest4z1p2
                case hy4z1p2 => (intro wx hSw; (try dsimp only at hSw); go_simp; try with_reducible rfl)
                try simp only [Act.put]
                refine wpAnyH_take (i := 5) (oi := _) (v := ?v5z1p2) rfl (by kernel_rfl) (by kernel_rfl) (by kernel_rfl) (fun _ _ _ h => h) (Or.inl ⟨by rfl, ?hy5z1p2⟩) (by assumption) ?rest5z1p2
                case hy5z1p2 => (intro wx hSw; (try dsimp only at hSw); go_simp; try with_reducible rfl)
                try simp only [Act.put]
                refine wpAnyH_take (i := 6) (oi := _) (v := ?v6z1p2) rfl (by kernel_rfl) (by kernel_rfl) (by kernel_rfl) (fun _ _ _ h => h) (Or.inl ⟨by rfl, ?hy6z1p2⟩) (by assumption) ?rest6z1p2
                case hy6z1p2 => (intro wx hSw; (try dsimp only at hSw); go_simp; try with_reducible rfl)
                try simp only [Act.put]
                refine wpAnyH_take (i := 7) (oi := _) (v := ?v7z1p2) rfl (by kernel_rfl) (by kernel_rfl) (by kernel_rfl) (fun _ _ _ h => h) (Or.inl ⟨by rfl, ?hy7z1p2⟩) (by assumption) ?rest7z1p2
                case hy7z1p2 => (intro wx hSw; (try dsimp only at hSw); go_simp; try with_reducible rfl)
                try simp only [Act.put]
                refine wpAnyH_take (i := 9) (oi := _) (v := ?v9z1p2) rfl (by kernel_rfl) (by kernel_rfl) (by kernel_rfl) (fun _ _ _ h => h) (Or.inl ⟨by rfl, ?hy9z1p2⟩) (by assumption) ?rest9z1p2
                case hy9z1p2 => (intro wx hSw; (try dsimp only at hSw); go_simp; try with_reducible rfl)
                try simp only [Act.put]
                refine wpAnyH_take (i := 10) (oi := _) (v := ?v10z1p2) rfl (by kernel_rfl) (by kernel_rfl) (by kernel_rfl) (fun _ _ _ h => h) (Or.inl ⟨by rfl, ?hy10z1p2⟩) (by assumption) ?rest10z1p2
                case hy10z1p2 => (intro wx hSw; (try dsimp only at hSw); go_simp; try with_reducible rfl)
                try simp only [Act.put]
                refine wpAnyH_ready (rs := [13]) (by kernel_rfl) (by simp) ?_
                refine AllReadyH.cons (o := _) rfl (fun K9 hK9 => ?_) AllReadyH.nil
                go_simp
                go_at_call 32; refine (word_calls _ (ok := ok) (by exact (hOW _ hb4).1) (by exact (hOW _ hb4).2)).mono ?_; rintro e w5 ⟨rfl, hb5⟩; have hb5 : Below w4.heap.size w4 w5 := ⟨hb5.os, hb5.tape, hb5.output, hb5.size, hb5.block⟩
                have hgb5 := (hb5.block g hgl).trans hgb4
                obtain ⟨k0, k1, hB5, hF5, hH5⟩ := aft _ (hb4.trans (hb5.mono hb4.size))
                refine hK9.out _ _ ⟨⟨k0, k1⟩, (cell_blk (j := 1) hgb5 (by decide +revert)).1⟩ (fun hHeld5 => ?_)
                try simp only [Act.put]
                refine wpAnyH_take (i := 14) (oi := _) (v := ?v14z1p2) rfl (by kernel_rfl) (by kernel_rfl) (by kernel_rfl) (fun _ _ _ h => h) (Or.inl ⟨by rfl, ?hy14z1p2⟩) (by assumption) ?rest14z1p2
                case hy14z1p2 => (intro wx hSw; (try dsimp only at hSw); go_simp; try with_reducible rfl)
                try simp only [Act.put]
                refine wpAnyH_take (i := 15) (oi := _) (v := ?v15z1p2) rfl (by kernel_rfl) (by kernel_rfl) (by kernel_rfl) (fun _ _ _ h => h) (Or.inl ⟨by rfl, ?hy15z1p2⟩) (by assumption) ?rest15z1p2
                case hy15z1p2 => (intro wx hSw; (try dsimp only at hSw); go_simp; try with_reducible rfl)
                try simp only [Act.put]
                refine wpAnyH_ready (rs := [16]) (by kernel_rfl) (by simp) ?_
                refine AllReadyH.cons (o := _) rfl (fun K9 hK9 => ?_) AllReadyH.nil
                go_simp
                go_at_call 30; refine (write_b _ (by exact hB5) (by exact (show (Lib.byteCells (pt (numsL c) Z 20)).length + _ ≤ 140737488355328 by rw [Lib.byteCells_length]; exact Nat.le_trans hl3 (by decide)))).mono ?_; rintro e w6 ⟨rfl, hB6, hF6, hO6⟩
                obtain ⟨m0, m1⟩ := aft2 _ (hO6 _ _ _ _ (by omega) (by decide) (by exact hH5))
                have hgne : g ≠ b := by have h9 : wr.heap.size ≤ g := hgr; omega
                have hgb6 := hO6 g _ tg _ hgne htg (by exact hgb5)
                refine hK9.out _ _ ⟨⟨m0, m1⟩, (cell_blk (j := 1) hgb6 (by decide +revert)).1⟩ (fun _ => ?_)
                refine wpAnyH_done (by kernel_rfl) ?_ _
                try simp only [Act.put]
                have hB7 : Bld C b (Lib.byteCells (pt (numsL c) Z 23)) w6 := by
                  rw [hlast, Lib.byteCells_append]
                  exact hB6
                have hle7 := hB7.le
                clear hlast hl3 hlen
                generalize pt (numsL c) Z 23 = L at *
                go_wp2_with (go_at_call 34; refine (Tryd.Builder_String_any_f b b _ _ (by exact hB7.string) (by omega)).mono ?_)
                rintro e w7 ⟨rfl, _, hb7⟩
                go_wp2
                go_ret
                refine ⟨?_, ?_⟩
                · rw [← mk_bs (textC c), htx]; rfl
                · have hx := hw03.size
                  have h6 : Below w.heap.size w3 w6 := by
                    have := hF5.trans ⟨hF6.os, hF6.tape, hF6.output, hF6.size, hF6.block⟩
                    exact ⟨this.os, this.tape, this.output, this.size, fun k hk => this.block k (by omega) (by omega)⟩
                  exact (hw03.trans h6).trans (hb7.mono (by omega))
              · rw [hp] at q20 aft aft2
                have hvp : valB (numsL c) Z 20 = ⟨#[114, 105, 110, 103]⟩ := val_pol (p := 2) (by rw [hp]; rfl)
                rw [hvp, hvz] at hlast
                have hl3 := hlen
                rw [hlast, List.length_append, bs_length] at hl3
                go_wp2
                have x0 : ¬ 9223372036854775807 < 28 + (yesW (nth (numsL c) 22 == 1)).size := by omega
                have x1 : ¬ 9223372036854775807 < 28 + (yesW (nth (numsL c) 22 == 1)).size + 1 := by omega
                have hwp : IntKind.i64.wrap 2 = 2 := by decide
                refine wp_region_held_drew (S := fun w' => w'.cell? ⟨w.heap.size, 20, none⟩ = some (.int .i64 3) ∧ w'.cell? ⟨w.heap.size, 22, none⟩ = some (.bool (nth (numsL c) 22 == 1))) (by kernel_rfl) ⟨by go_keep, by go_keep⟩ (fun hHeld => ?_)
                refine wpAnyH_take (i := 1) (oi := _) (v := ?v1z1p3) rfl (by kernel_rfl) (by kernel_rfl) (by kernel_rfl) (fun _ _ _ h => h) (Or.inl ⟨by rfl, ?hy1z1p3⟩) (by assumption) ?rest1z1p3
                case hy1z1p3 => (intro wx hSw; (try dsimp only at hSw); go_simp; try with_reducible rfl)
                try simp only [Act.put]
                refine wpAnyH_take (i := 2) (oi := _) (v := ?v2z1p3) rfl (by kernel_rfl) (by kernel_rfl) (by kernel_rfl) (fun _ _ _ h => h) (Or.inl ⟨by rfl, ?hy2z1p3⟩) (by assumption) ?rest2z1p3
                case hy2z1p3 => (intro wx hSw; (try dsimp only at hSw); go_simp; try with_reducible rfl)
                try simp only [Act.put]
                refine wpAnyH_take (i := 3) (oi := _) (v := ?v3z1p3) rfl (by kernel_rfl) (by kernel_rfl) (by kernel_rfl) (fun _ _ _ h => h) (Or.inl ⟨by rfl, ?hy3z1p3⟩) (by assumption) ?rest3z1p3
                case hy3z1p3 => (intro wx hSw; (try dsimp only at hSw); go_simp; try with_reducible rfl)
                try simp only [Act.put]
                refine wpAnyH_take (i := 8) (oi := _) (v := ?v8z1p3) rfl (by kernel_rfl) (by kernel_rfl) (by kernel_rfl) (fun _ _ _ h => h) (Or.inl ⟨by rfl, ?hy8z1p3⟩) (by assumption) ?rest8z1p3
                case hy8z1p3 => (intro wx hSw; (try dsimp only at hSw); go_simp; try with_reducible rfl)
                try simp only [Act.put]
                refine wpAnyH_take (i := 11) (oi := _) (v := ?v11z1p3) rfl (by kernel_rfl) (by kernel_rfl) (by kernel_rfl) (fun _ _ _ h => h) (Or.inl ⟨by rfl, ?hy11z1p3⟩) (by assumption) ?rest11z1p3
                case hy11z1p3 => (intro wx hSw; (try dsimp only at hSw); go_simp; try with_reducible rfl)
                try simp only [Act.put]
                refine wpAnyH_take (i := 12) (oi := _) (v := ?v12z1p3) rfl (by kernel_rfl) (by kernel_rfl) (by kernel_rfl) (fun _ _ _ h => h) (Or.inl ⟨by rfl, ?hy12z1p3⟩) (by assumption) ?rest12z1p3
                case hy12z1p3 => (intro wx hSw; (try dsimp only at hSw); go_simp; try with_reducible rfl)
                try simp only [Act.put]
                refine wpAnyH_ready (rs := [0]) (by kernel_rfl) (by simp) ?_
                refine AllReadyH.cons (o := _) rfl (fun K9 hK9 => ?_) AllReadyH.nil
                go_simp
                go_at_call 33; refine (pols_calls _).mono ?_; rintro e w4 ⟨g, tg, rfl, hgb4, htg, hgr, hb4⟩; have hb4 : Below wr.heap.size wr w4 := ⟨hb4.os, hb4.tape, hb4.output, hb4.size, hb4.block⟩; obtain ⟨f0, f1, hB4, hF4, hH4⟩ := aft _ hb4
                have hgl := lt_of_some hgb4
                refine hK9.out _ _ ⟨f0, f1⟩ (fun _ => ?_)
                refine wpAnyH_weaken (S' := fun w' => (w'.cell? ⟨w.heap.size, 20, none⟩ = some (.int .i64 3) ∧ w'.cell? ⟨w.heap.size, 22, none⟩ = some (.bool (nth (numsL c) 22 == 1))) ∧ w'.cell? ⟨g, 2, none⟩ = some (.string ⟨#[114, 105, 110, 103]⟩)) (fun _ h => h.1) _ _ _ _ ?_
                have hHeld4 : (w4.cell? ⟨w.heap.size, 20, none⟩ = some (.int .i64 3) ∧ w4.cell? ⟨w.heap.size, 22, none⟩ = some (.bool (nth (numsL c) 22 == 1))) ∧ w4.cell? ⟨g, 2, none⟩ = some (.string ⟨#[114, 105, 110, 103]⟩) := ⟨⟨f0, f1⟩, (cell_blk (j := 2) hgb4 (by decide +revert)).1⟩
                try simp only [Act.put]
                refine wpAnyH_take (i := 4) (oi := _) (v := ?v4z1p3) rfl (by kernel_rfl) (by kernel_rfl) (by kernel_rfl) (fun _ _ _ h => h) (Or.inl ⟨by rfl, ?hy4z1p3⟩) (by assumption) ?rest4z1p3
                case hy4z1p3 => (intro wx hSw; (try dsimp only at hSw); go_simp; try with_reducible rfl)
                try simp only [Act.put]
                refine wpAnyH_take (i := 5) (oi := _) (v := ?v5z1p3) rfl (by kernel_rfl) (by kernel_rfl) (by kernel_rfl) (fun _ _ _ h => h) (Or.inl ⟨by rfl, ?hy5z1p3⟩) (by assumption) ?rest5z1p3
                case hy5z1p3 => (intro wx hSw; (try dsimp only at hSw); go_simp; try with_reducible rfl)
                try simp only [Act.put]
                refine wpAnyH_take (i := 6) (oi := _) (v := ?v6z1p3) rfl (by kernel_rfl) (by kernel_rfl) (by kernel_rfl) (fun _ _ _ h => h) (Or.inl ⟨by rfl, ?hy6z1p3⟩) (by assumption) ?rest6z1p3
                case hy6z1p3 => (intro wx hSw; (try dsimp only at hSw); go_simp; try with_reducible rfl)
                try simp only [Act.put]
                refine wpAnyH_take (i := 7) (oi := _) (v := ?v7z1p3) rfl (by kernel_rfl) (by kernel_rfl) (by kernel_rfl) (fun _ _ _ h => h) (Or.inl ⟨by rfl, ?hy7z1p3⟩) (by assumption) ?rest7z1p3
                case hy7z1p3 => (intro wx hSw; (try dsimp only at hSw); go_simp; try with_reducible rfl)
                try simp only [Act.put]
                refine wpAnyH_take (i := 9) (oi := _) (v := ?v9z1p3) rfl (by kernel_rfl) (by kernel_rfl) (by kernel_rfl) (fun _ _ _ h => h) (Or.inl ⟨by rfl, ?hy9z1p3⟩) (by assumption) ?rest9z1p3
                case hy9z1p3 => (intro wx hSw; (try dsimp only at hSw); go_simp; try with_reducible rfl)
                try simp only [Act.put]
                refine wpAnyH_take (i := 10) (oi := _) (v := ?v10z1p3) rfl (by kernel_rfl) (by kernel_rfl) (by kernel_rfl) (fun _ _ _ h => h) (Or.inl ⟨by rfl, ?hy10z1p3⟩) (by assumption) ?rest10z1p3
                case hy10z1p3 => (intro wx hSw; (try dsimp only at hSw); go_simp; try with_reducible rfl)
                try simp only [Act.put]
                refine wpAnyH_ready (rs := [13]) (by kernel_rfl) (by simp) ?_
                refine AllReadyH.cons (o := _) rfl (fun K9 hK9 => ?_) AllReadyH.nil
                go_simp
                go_at_call 32; refine (word_calls _ (ok := ok) (by exact (hOW _ hb4).1) (by exact (hOW _ hb4).2)).mono ?_; rintro e w5 ⟨rfl, hb5⟩; have hb5 : Below w4.heap.size w4 w5 := ⟨hb5.os, hb5.tape, hb5.output, hb5.size, hb5.block⟩
                have hgb5 := (hb5.block g hgl).trans hgb4
                obtain ⟨k0, k1, hB5, hF5, hH5⟩ := aft _ (hb4.trans (hb5.mono hb4.size))
                refine hK9.out _ _ ⟨⟨k0, k1⟩, (cell_blk (j := 2) hgb5 (by decide +revert)).1⟩ (fun hHeld5 => ?_)
                try simp only [Act.put]
                refine wpAnyH_take (i := 14) (oi := _) (v := ?v14z1p3) rfl (by kernel_rfl) (by kernel_rfl) (by kernel_rfl) (fun _ _ _ h => h) (Or.inl ⟨by rfl, ?hy14z1p3⟩) (by assumption) ?rest14z1p3
                case hy14z1p3 => (intro wx hSw; (try dsimp only at hSw); go_simp; try with_reducible rfl)
                try simp only [Act.put]
                refine wpAnyH_take (i := 15) (oi := _) (v := ?v15z1p3) rfl (by kernel_rfl) (by kernel_rfl) (by kernel_rfl) (fun _ _ _ h => h) (Or.inl ⟨by rfl, ?hy15z1p3⟩) (by assumption) ?rest15z1p3
                case hy15z1p3 => (intro wx hSw; (try dsimp only at hSw); go_simp; try with_reducible rfl)
                try simp only [Act.put]
                refine wpAnyH_ready (rs := [16]) (by kernel_rfl) (by simp) ?_
                refine AllReadyH.cons (o := _) rfl (fun K9 hK9 => ?_) AllReadyH.nil
                go_simp
                go_at_call 30; refine (write_b _ (by exact hB5) (by exact (show (Lib.byteCells (pt (numsL c) Z 20)).length + _ ≤ 140737488355328 by rw [Lib.byteCells_length]; exact Nat.le_trans hl3 (by decide)))).mono ?_; rintro e w6 ⟨rfl, hB6, hF6, hO6⟩
                obtain ⟨m0, m1⟩ := aft2 _ (hO6 _ _ _ _ (by omega) (by decide) (by exact hH5))
                have hgne : g ≠ b := by have h9 : wr.heap.size ≤ g := hgr; omega
                have hgb6 := hO6 g _ tg _ hgne htg (by exact hgb5)
                refine hK9.out _ _ ⟨⟨m0, m1⟩, (cell_blk (j := 2) hgb6 (by decide +revert)).1⟩ (fun _ => ?_)
                refine wpAnyH_done (by kernel_rfl) ?_ _
                try simp only [Act.put]
                have hB7 : Bld C b (Lib.byteCells (pt (numsL c) Z 23)) w6 := by
                  rw [hlast, Lib.byteCells_append]
                  exact hB6
                have hle7 := hB7.le
                clear hlast hl3 hlen
                generalize pt (numsL c) Z 23 = L at *
                go_wp2_with (go_at_call 34; refine (Tryd.Builder_String_any_f b b _ _ (by exact hB7.string) (by omega)).mono ?_)
                rintro e w7 ⟨rfl, _, hb7⟩
                go_wp2
                go_ret
                refine ⟨?_, ?_⟩
                · rw [← mk_bs (textC c), htx]; rfl
                · have hx := hw03.size
                  have h6 : Below w.heap.size w3 w6 := by
                    have := hF5.trans ⟨hF6.os, hF6.tape, hF6.output, hF6.size, hF6.block⟩
                    exact ⟨this.os, this.tape, this.output, this.size, fun k hk => this.block k (by omega) (by omega)⟩
                  exact (hw03.trans h6).trans (hb7.mono (by omega))

end Go.Proofs.YtlakpbfmcnlnbaaDoor
