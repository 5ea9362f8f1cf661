/-
  States copied: the law.
-/
import Derived.Test.YtdoilggfajngiaaSW
namespace Go.Proofs.Ytdoilggfajngiaa
open Go VE Go.RowKit

attribute [local go_sem ↓] Go.wp_at_zero Go.wp_at_succ

/-- A call that answers by a spec, from what a slice holds. -/
theorem ret1_calls {g : FuncId} {c r : IC} (h : VE.Returns Try.prog g [.c c] (.c r)) {ok : Nat → Nat → Prop} {w : World} (hok : ∀ b o, ok b o → b < w.heap.size) (hl : Laid ok w) {u : Value} (hu : VRel (outside ok w) w u c) :
    Calls Try.prog g #[u] w fun e w' => ∃ v, e = .returned v ∧ Below w.heap.size w w' ∧ VRel (inside (okNew ok w w')) w' v r := by
  refine (h w #[u] ok hok hl rfl fun j c' hc => ?_).mono fun e w' ⟨v, he, hb, hr⟩ => ⟨v, he, hb, iv_c hr⟩
  cases j with
  | zero => cases hc; exact .c _ _ hu
  | succ j => cases hc
theorem awake_calls {ok : Nat → Nat → Prop} {w : World} (hok : ∀ b o, ok b o → b < w.heap.size) (hl : Laid ok w) :
    Calls Try.prog 9 #[] w fun e w' => e = .returned (.bool true) ∧ Below w.heap.size w w' := by
  refine (SpecOK.returns awakeS_ok (args := []) (r := vb true) rfl w #[] ok hok hl rfl fun j c' hc => (by cases hc)).mono fun e w' ⟨v, he, hb, hr⟩ => ?_
  obtain ⟨rfl, _⟩ := iv_v hr
  exact ⟨he, hb⟩
theorem same_calls {l : List (El TStatus)} (hf : fits (.sl TStatus) l = true) {ok : Nat → Nat → Prop} {w : World} (hok : ∀ b o, ok b o → b < w.heap.size) (hl : Laid ok w) {u v : Value} (hu : VRel (outside ok w) w u (.sl TStatus l)) (hv : VRel (outside ok w) w v (.sl TStatus l)) :
    Calls Try.prog 13 #[u, v] w fun e w' => e = .returned (.bool true) ∧ Below w.heap.size w w' := by
  have hs : sameSB l l = true := sameSB_self l
  refine (SpecOK.returns sameSR_ok (args := [.c (.sl TStatus l), .c (.sl TStatus l)]) (r := vb true) (by
    show test (fits (.sl TStatus) l && (fits (.sl TStatus) l && true)) (some (vb (sameSB l l), [])) = _
    rw [hf, hs]; rfl) w #[u, v] ok hok hl rfl fun j c' hc => ?_).mono fun e w' ⟨v, he, hb, hr⟩ => ?_
  · rcases j with _ | _ | j
    · cases hc; exact .c _ _ hu
    · cases hc; exact .c _ _ hv
    · cases hc
  · obtain ⟨rfl, _⟩ := iv_v hr
    exact ⟨he, hb⟩
theorem laid_mono {ok ok' : Nat → Nat → Prop} {w : World} (h : Laid ok w) (hm : ∀ b o, ok b o → ok' b o) : Laid ok' w := fun p hp => ⟨hm _ _ (h p hp).1, (h p hp).2⟩

set_option maxHeartbeats 8000000 in
set_option maxRecDepth 1000000 in
theorem lCopies_all (l : List (El TStatus)) (s : ByteArray) (hf : fits (.sl TStatus) l = true) : VE.Returns Try.prog 6 [.c (.sl TStatus l), .c (.v (.string s))] (vb true) := by
  intro w us ok hok hl hus ha
  have hn : Try.f6.ntmps = 126 := rfl
  obtain ⟨u0, u1, rfl⟩ : ∃ u0 u1, us = #[u0, u1] := by
    match us, hus with
    | ⟨[a, b]⟩, _ => exact ⟨a, b, rfl⟩
  have hu0 := iv_c (ha 0 _ rfl)
  have hu1 := iv_c (ha 1 _ rfl)
  have hu0 : VRel (outside ok w) w u0 (.sl TStatus l) := hu0
  have hu1 : VRel (outside ok w) w u1 (.v (.string s)) := hu1
  cases hu1
  clear ha hus
  have hLight := SpecOK.returns lightS16_ok (args := [.c (.sl TStatus l)]) (r := vi .i64 (lightL l)) (by
    show test (fits (.sl TStatus) l && true) (some (vi .i64 (lightL l), [])) = _
    rw [hf]; rfl)
  have hCopy := SpecOK.returns copySR_ok (args := [.c (.sl TStatus l)]) (r := .c (.sl TStatus l)) (by
    show test (fits (.sl TStatus) l && true) (some (.c (.sl TStatus l), [])) = _
    rw [hf]; rfl)
  have hlen : l.length ≤ 703687441776 := by
    have h1 : l.length * 200 ≤ reachBytes := of_decide_eq_true (Bool.and_eq_true_iff.1 hf).1
    have hR : reachBytes = 140737488351232 := rfl
    omega
  go_enter Try.func6, hn
  go_wp2_with (first
    | (go_at_call 8; refine (ret1_calls hLight hok hl hu0).mono ?_; rintro e Wl ⟨v, rfl, hbl, hrl⟩; cases hrl; have hll := laid_below hok hl hbl; have hu0l := vrel_below hok hbl hu0)
    | (go_at_call 9; refine (awake_calls hll.2 hll.1).mono ?_; rintro e Wa ⟨rfl, hba⟩)
    | (go_at_call 21; refine (ret1_calls hCopy hll.2 hll.1 hu0l).mono ?_; rintro e W1 ⟨v5, rfl, hb1, hr1⟩; have hl1 := laid_below hll.2 hll.1 hb1; have hu01 := vrel_below hll.2 hb1 hu0l)
    | (go_at_call 22; refine (copyAll_calls hf hl1.2 hl1.1 hu01).mono ?_; rintro e W2 ⟨v6, m6, rfl, hm6, hR6, hb2⟩; obtain ⟨a6, c6, rfl, hz6⟩ := hR6.z (by decide) (fun o ho => by cases ho; decide); have hl2 := laid_below hl1.2 hl1.1 hb2; have hu02 := vrel_below hl1.2 hb2 hu01; clear hR6)
    | (go_at_call 10; refine (membersAll_calls hf hl2.2 hl2.1 hu02).mono ?_; rintro e W3 ⟨v7, m7, rfl, hm7, hR7, hb3⟩; obtain ⟨a7, c7, rfl, hz7⟩ := hR7.z (by decide) (fun o ho => by cases ho; decide); have hz6 := hz6.below hb3 (Nat.le_refl _); have hl3 := laid_below hl2.2 hl2.1 hb3; have hu03 := vrel_below hl2.2 hb3 hu02; clear hR7)
    | (go_at_call 20; refine (hosts_all hf hl3.2 hl3.1 hu03).mono ?_; rintro e W4 ⟨v8, m8, rfl, hm8, hR8, hb4⟩; obtain ⟨a8, c8, rfl, hz8⟩ := hR8.z (by decide) (fun o ho => by cases ho); have hz6 := hz6.below (hb4.mono hb3.size) hb3.size; have hz7 := hz7.below hb4 (Nat.le_refl _); have hl4 := laid_below hl3.2 hl3.1 hb4; clear hR8))
  · go_ret
    exact ⟨_, rfl, hbl.trans (hba.mono hbl.size), .c _ _ (.v _ rfl)⟩
  · have hN1 := hb2.size
    have hN2 := hb3.size
    have hN3 := hb4.size
    go_loopw [34] (fun i wr => ∃ k : Nat, k ≤ m6 ∧ i = .int .i64 (k : Int) ∧ RowY 21 5 (some 10) W1.heap.size W2.heap.size a6 m6 wr ∧ Touch W1.heap.size W2.heap.size W4 wr) (fun i _ => m6 - (intOf i).toNat)
    case atStart => exact ⟨0, Nat.zero_le _, rfl, hz6, Touch.refl _ _ _⟩
    case round =>
      clear hz6
      rename World => X1
      obtain ⟨k, hk, rfl, hz6, ht6⟩ := hrel
      by_cases hk2 : k < m6
      · obtain ⟨g, rfl, hr6⟩ := hz6.resolve_left (by omega)
        obtain ⟨u, hu, a, n, c, rfl, hn2, hm⟩ := hr6.meta_ k hk2
        clear hm
        go_wp2
        go_loopw [44] (fun i w2 => ∃ j : Nat, j ≤ n ∧ i = .int .i64 (j : Int) ∧ RowH 21 5 (some 10) W1.heap.size W2.heap.size g m6 w2 ∧ Touch W1.heap.size W2.heap.size X1 w2 ∧ w2.cell? ⟨g, k * 21 + 5, none⟩ = some (.slice a n c)) (fun i _ => n - (intOf i).toNat)
        case atStart => exact ⟨0, Nat.zero_le _, rfl, hr6, Touch.refl _ _ _, hu⟩
        case round =>
          clear hr6 hu
          obtain ⟨j, hj, rfl, hr6, ht2, hu⟩ := hrel
          by_cases hj2 : j < n
          · obtain ⟨u', hu', a', n', c', rfl, _, hm⟩ := hr6.meta_ k hk2
            rw [hu] at hu'
            cases hu'
            obtain ⟨gi, rfl, hg1, hg2, hg3, hg4⟩ := hm.resolve_left (by omega)
            obtain ⟨hs1, hs2⟩ := hg4 (j * 2 + 1) (by omega)
            obtain ⟨y, hy⟩ := Option.isSome_iff_exists.1 hs1
            go_wp2
            refine ⟨⟨j + 1, hj2, rfl, hr6.setMeta hg2 _, ht2.trans (touch_set _ _ hg1 hg3), ?_⟩, ?_⟩
            · rw [cell_set_ne (.inl (Ne.symm hg2))]
              exact hu
            · show n - ((j : Int) + 1).toNat < n - (j : Int).toNat
              omega
          · obtain ⟨⟨z, hz⟩, hfz⟩ := hr6.err 10 rfl k hk2
            go_wp2
            refine ⟨⟨k + 1, hk2, rfl, .inr ⟨g, rfl, hr6.setErr (by decide) (by decide) (by decide) (fun p hp => by cases hp; rfl) hk2 rfl _⟩, ht6.trans (ht2.trans (touch_set _ _ hr6.base hr6.lt))⟩, ?_⟩
            show m6 - ((k : Int) + 1).toNat < m6 - (k : Int).toNat
            omega
      · have hz8 := hz8.touch ht6 (by omega)
        have hz7 := hz7.touch ht6 (Nat.le_refl _)
        clear hz6
        go_wp2
        go_loopw [69] (fun i wr => ∃ k : Nat, k ≤ m7 ∧ i = .int .i64 (k : Int) ∧ RowY 21 5 (some 10) W2.heap.size W3.heap.size a7 m7 wr ∧ Touch W2.heap.size W3.heap.size X1 wr) (fun i _ => m7 - (intOf i).toNat)
        case atStart => exact ⟨0, Nat.zero_le _, rfl, hz7, Touch.refl _ _ _⟩
        case round =>
          clear hz7
          rename World => X2
          obtain ⟨k, hk, rfl, hz7, ht7⟩ := hrel
          by_cases hk2 : k < m7
          · obtain ⟨g, rfl, hr6⟩ := hz7.resolve_left (by omega)
            obtain ⟨u, hu, a, n, c, rfl, hn2, hm⟩ := hr6.meta_ k hk2
            clear hm
            go_wp2
            go_loopw [79] (fun i w2 => ∃ j : Nat, j ≤ n ∧ i = .int .i64 (j : Int) ∧ RowH 21 5 (some 10) W2.heap.size W3.heap.size g m7 w2 ∧ Touch W2.heap.size W3.heap.size X2 w2 ∧ w2.cell? ⟨g, k * 21 + 5, none⟩ = some (.slice a n c)) (fun i _ => n - (intOf i).toNat)
            case atStart => exact ⟨0, Nat.zero_le _, rfl, hr6, Touch.refl _ _ _, hu⟩
            case round =>
              clear hr6 hu
              obtain ⟨j, hj, rfl, hr6, ht2, hu⟩ := hrel
              by_cases hj2 : j < n
              · obtain ⟨u', hu', a', n', c', rfl, _, hm⟩ := hr6.meta_ k hk2
                rw [hu] at hu'
                cases hu'
                obtain ⟨gi, rfl, hg1, hg2, hg3, hg4⟩ := hm.resolve_left (by omega)
                obtain ⟨hs1, hs2⟩ := hg4 (j * 2) (by omega)
                obtain ⟨y, hy⟩ := Option.isSome_iff_exists.1 hs1
                go_wp2
                refine ⟨⟨j + 1, hj2, rfl, hr6.setMeta hg2 _, ht2.trans (touch_set _ _ hg1 hg3), ?_⟩, ?_⟩
                · rw [cell_set_ne (.inl (Ne.symm hg2))]
                  exact hu
                · show n - ((j : Int) + 1).toNat < n - (j : Int).toNat
                  omega
              · go_wp2
                refine ⟨⟨k + 1, hk2, rfl, .inr ⟨g, rfl, hr6⟩, ht7.trans ht2⟩, ?_⟩
                show m7 - ((k : Int) + 1).toNat < m7 - (k : Int).toNat
                omega
          · have hz8 := hz8.touch ht7 (Nat.le_refl _)
            clear hz7
            go_wp2
            go_loopw [96] (fun i wr => ∃ k : Nat, k ≤ m8 ∧ i = .int .i64 (k : Int) ∧ RowY 6 5 none W3.heap.size W4.heap.size a8 m8 wr ∧ Touch W3.heap.size W4.heap.size X2 wr) (fun i _ => m8 - (intOf i).toNat)
            case atStart => exact ⟨0, Nat.zero_le _, rfl, hz8, Touch.refl _ _ _⟩
            case round =>
              clear hz8
              rename World => X3
              obtain ⟨k, hk, rfl, hz8, ht8⟩ := hrel
              by_cases hk2 : k < m8
              · obtain ⟨g, rfl, hr6⟩ := hz8.resolve_left (by omega)
                obtain ⟨u, hu, a, n, c, rfl, hn2, hm⟩ := hr6.meta_ k hk2
                clear hm
                go_wp2
                go_loopw [105] (fun i w2 => ∃ j : Nat, j ≤ n ∧ i = .int .i64 (j : Int) ∧ RowH 6 5 none W3.heap.size W4.heap.size g m8 w2 ∧ Touch W3.heap.size W4.heap.size X3 w2 ∧ w2.cell? ⟨g, k * 6 + 5, none⟩ = some (.slice a n c)) (fun i _ => n - (intOf i).toNat)
                case atStart => exact ⟨0, Nat.zero_le _, rfl, hr6, Touch.refl _ _ _, hu⟩
                case round =>
                  clear hr6 hu
                  obtain ⟨j, hj, rfl, hr6, ht2, hu⟩ := hrel
                  by_cases hj2 : j < n
                  · obtain ⟨u', hu', a', n', c', rfl, _, hm⟩ := hr6.meta_ k hk2
                    rw [hu] at hu'
                    cases hu'
                    obtain ⟨gi, rfl, hg1, hg2, hg3, hg4⟩ := hm.resolve_left (by omega)
                    obtain ⟨hs1, hs2⟩ := hg4 (j * 2) (by omega)
                    obtain ⟨y, hy⟩ := Option.isSome_iff_exists.1 hs1
                    go_wp2
                    refine ⟨⟨j + 1, hj2, rfl, hr6.setMeta hg2 _, ht2.trans (touch_set _ _ hg1 hg3), ?_⟩, ?_⟩
                    · rw [cell_set_ne (.inl (Ne.symm hg2))]
                      exact hu
                    · show n - ((j : Int) + 1).toNat < n - (j : Int).toNat
                      omega
                  · go_wp2
                    refine ⟨⟨k + 1, hk2, rfl, .inr ⟨g, rfl, hr6⟩, ht8.trans ht2⟩, ?_⟩
                    show m8 - ((k : Int) + 1).toNat < m8 - (k : Int).toNat
                    omega
              · clear hz8
                have hbX : Below W1.heap.size W1 X3 := hb2.trans ((hb3.mono (by omega)).trans ((hb4.mono (by omega)).trans (ht6.below.trans ((ht7.below.mono (by omega)).trans (ht8.below.mono (by omega))))))
                have hok' : ∀ b o, okNew ok Wl W1 b o → b < W1.heap.size := fun b o h => h.elim (hl1.2 b o) (fun h => h.2)
                have hlX := laid_below hok' (laid_mono hl1.1 fun b o h => .inl h) hbX
                have huX : VRel (outside (okNew ok Wl W1) X3) X3 u0 (.sl TStatus l) := VRel.ext (x := outside ok W1) (x' := outside (okNew ok Wl W1) X3) ⟨fun _ _ h => h, fun _ _ h => .inl h, fun b o h => Nat.lt_of_lt_of_le (show b < W1.heap.size from h) hbX.size, fun b o h => hbX.cell (p := ⟨b, o, none⟩) (h.elim (fun h => h) (hl1.2 b o))⟩ hu01
                have hvX : VRel (outside (okNew ok Wl W1) X3) X3 v5 (.sl TStatus l) := VRel.ext (x := inside (okNew ok Wl W1)) (x' := outside (okNew ok Wl W1) X3) ⟨fun _ _ h => h, fun _ _ h => h, fun b o h => Nat.lt_of_lt_of_le (hok' b o h) hbX.size, fun b o h => hbX.cell (p := ⟨b, o, none⟩) (h.elim (hok' b o) (hok' b o))⟩ hr1
                go_wp2_with (first
                  | (go_at_call 13; refine (same_calls hf hlX.2 hlX.1 huX hvX).mono ?_; rintro e Y1 ⟨rfl, hbY⟩; have hlY := laid_below hlX.2 hlX.1 hbY)
                  | (go_at_call 9; refine (awake_calls hlY.2 hlY.1).mono ?_; rintro e Y2 ⟨rfl, hbY2⟩))
                go_ret
                exact ⟨_, rfl, hbl.trans (((hb1.trans (hbX.mono hb1.size)).mono hbl.size).trans ((hbY.trans (hbY2.mono hbY.size)).mono (Nat.le_trans hbl.size (Nat.le_trans hb1.size hbX.size)))), .c _ _ (.v _ rfl)⟩
  · go_ret
    exact ⟨_, rfl, hbl.trans (hba.mono hbl.size), .c _ _ (.v _ rfl)⟩

theorem lCopies_R (l : List (El TStatus)) (s : ByteArray) (hx : (fits (.sl TStatus) l && (fits .str s && true)) = true) : VE.Returns Try.prog 6 [.c (.sl TStatus l), .c (.v (.string s))] (vb true) :=
  lCopies_all l s (Bool.and_eq_true_iff.1 hx).1

end Go.Proofs.Ytdoilggfajngiaa
