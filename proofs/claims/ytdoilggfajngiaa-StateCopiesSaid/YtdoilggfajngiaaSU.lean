/-
  States copied: Hosts, Copy, Members.
-/
import Derived.Test.YtdoilggfajngiaaSZ
namespace Go.Proofs.Ytdoilggfajngiaa
open Go VE Go.RowKit

attribute [local go_sem ↓] Go.wp_at_zero Go.wp_at_succ

theorem under46 : Try.prog.underlying 46 = some (.slice 28) := by kernel_rfl
theorem zero28 : ((Try.prog.info? 28).bind (·.zero)).isSome = true := by kernel_rfl

set_option maxHeartbeats 8000000 in
set_option maxRecDepth 1000000 in
theorem hosts_all {l : List (El TStatus)} (hf : fits (.sl TStatus) l = true) {ok : Nat → Nat → Prop} {w : World} (hok : ∀ b o, ok b o → b < w.heap.size) (hl : Laid ok w) {u : Value} (hu : VRel (outside ok w) w u (.sl TStatus l)) :
    Calls Try.prog 20 #[u] w fun e w' => ∃ v m, e = .returned v ∧ m ≤ l.length ∧ RowV 6 5 none w.heap.size v m w' ∧ Below w.heap.size w w' := by
  have hn : Try.f20.ntmps = 20 := rfl
  have hlen : l.length ≤ 703687441776 := by
    have h1 : l.length * 200 ≤ reachBytes := of_decide_eq_true (Bool.and_eq_true_iff.1 hf).1
    have hR : reachBytes = 140737488351232 := rfl
    omega
  obtain ⟨i28, z28, hi28, hz28, hs28, hb28, hc28⟩ := info28
  obtain ⟨d36, hu36, hd36⟩ := row36
  obtain ⟨d28, hu28, hd28⟩ := row28
  cases hu with
  | sl _ _ a cap rd hcap hnil hcell hel =>
  go_enter Try.func20, hn
  go_wp2
  go_loopw [3, 8] (fun v i wr => ∃ k m : Nat, k ≤ l.length ∧ m ≤ k ∧ i = .int .i64 (k : Int) ∧ RowV 6 5 none w.heap.size v m wr ∧ Below w.heap.size w wr)
    (fun _ i _ => l.length - (intOf i).toNat)
  case atStart => exact ⟨0, 0, by omega, by omega, rfl, .inl ⟨rfl, rfl⟩, Below.refl _ _⟩
  case round =>
    obtain ⟨k, m, hk, hm, rfl, hR, hb⟩ := hrel
    by_cases hk2 : k < l.length
    · have hx : l[k]? = some (rdEl TStatus l k) := rdEl_get (t := TStatus) hk2
      have hfx := fits_rd hf hk2
      obtain ⟨b, o, rfl, cs, hcs, hrl, hone, hrel2⟩ := el_cells hok hcell hel hk2 hx hb
      clear hcell hel
      generalize rdEl TStatus l k = x at *
      have hcs5 : 5 < cs.length := by omega
      have hbs := hb.size
      have ht6 : (cs.take 6).length = 6 := by rw [List.length_take]; omega
      go_wp2_with (first
        | (refine wpList_load_mid rfl 36 _ rfl b (o + k * 21) rfl cs d36 hrl hu36 hd36 (by rw [hcs]; exact size36) ?_)
        | (refine wpList_store_mid rfl 36 _ _ rfl wr.heap.size 0 cs.toArray rfl rfl (there_fresh _ _ _ (by rw [List.size_toArray, hcs]; decide)) (by rw [List.size_toArray, hcs]; exact size36) (all_oneCell_toArray hone) ?_; obtain ⟨W1, eW, hr1, ht1, hb1, hs1⟩ := store_fresh wr #[.int .i64 0, .string ⟨#[]⟩, .int .i64 0, .string ⟨#[]⟩, .int .i64 0, .slice none 0 0, .bool false, .int .i64 0, .int .i64 0, .int .i64 0, .int .i64 0, .int .i64 0, .int .i64 0, .bool false, .int .i64 0, .int .i64 0, .int .i64 0, .bool false, .int .i64 0, .int .i64 0, .int .i64 0] 36 cs (by rw [hcs]; decide); refine (show cs.toArray.toList = cs from rfl) ▸ ?_; refine eW ▸ ?_; clear eW; have hbw1 := hb.trans (hb1.mono hb.size); have hlw1 := laid_below hok hl hbw1)
        | (refine wpList_load_mid rfl 28 _ rfl wr.heap.size 0 rfl (cs.take 6) d28 (fun j v hv => hr1 j v (by rw [List.getElem?_take] at hv; split at hv; exact hv; cases hv)) hu28 hd28 (by rw [ht6]; exact size28) ?_)
        | (go_at_call 35; refine (hcopy_calls (fits_stat hfx) hlw1.2 hlw1.1 (us := (cs.take 6).toArray) (by rw [List.size_toArray, ht6]) (take_rel hcs fun j c hc => vrel_below hok hbw1 (hrel2 j c hc))).mono ?_; rintro e W3 ⟨v, rfl, hmv, hb3⟩; have hs3 := hb3.size; have h1v := hmv.one; have hm3 := hmv.new (B0 := w.heap.size) (by omega); clear hmv; refine (show (((cs.take 6).set 5 v).toArray) = (cs.take 6).toArray.setIfInBounds 5 v from (List.setIfInBounds_toArray ..).symm) ▸ ?_; have hl6 : ((cs.take 6).set 5 v).length = 6 := (List.length_set ..).trans ht6; have hone6 : ∀ u ∈ (cs.take 6).set 5 v, u.oneCell' = true := set_one (fun u hu => hone u (List.mem_of_mem_take hu)) h1v; have h56 : ((cs.take 6).set 5 v)[5]? = some v := (List.getElem?_set_self (by omega)); generalize (cs.take 6).set 5 v = N at hl6 hone6 h56 ⊢)
        | (refine wpList_build1 rfl 46 28 15 rfl N.toArray W3.heap.size rfl _ rfl under46 (by rw [List.size_toArray, hl6]; exact size28) zero28 (by rw [List.size_toArray, hl6]; decide) (by rw [List.size_toArray, hl6]; decide) rfl ?_; obtain ⟨W5, eW5, hc5, hb5, hs5⟩ := alloc_fresh W3 N.toArray 28; refine eW5 ▸ ?_; clear eW5)
        | (have hbr5 : Below wr.heap.size wr W5 := hb1.trans ((hb3.mono (by omega)).trans (hb5.mono (by omega))); refine wpList_row W5 rfl _ _ 46 rfl 28 i28 z28 6 80 under46 hi28 hz28 hs28 hb28 hc28 (by decide) (v := u3) (m := m) rfl (hR.below hbr5) (by omega) (B2 := W1.heap.size) (fun g c e => Nat.lt_of_lt_of_le (hR.block e) (by omega)) ⟨W3.heap.size, 0, none⟩ 1 N rfl hl6 hc5 hone6 (by decide) (u := v) h56 (hm3.below hb5) (fun o ho => by cases ho) (by unfold maxLen; omega) (by omega) ?_; intro v6 W6 hR6 hb6)
        )
      refine ⟨⟨k + 1, m + 1, hk2, Nat.succ_le_succ hm, rfl, hR6, hb.trans ((hbr5.mono hbs).trans hb6)⟩, ?_⟩
      show l.length - ((k : Int) + 1).toNat < l.length - (k : Int).toNat
      omega
    · have hkl : k = l.length := by omega
      subst hkl
      go_wp2
      go_ret
      exact ⟨_, m, rfl, hm, hR, hb⟩

set_option maxRecDepth 1000000 in
theorem copyAll_calls {l : List (El TStatus)} (hf : fits (.sl TStatus) l = true) {ok : Nat → Nat → Prop} {w : World} (hok : ∀ b o, ok b o → b < w.heap.size) (hl : Laid ok w) {u : Value} (hu : VRel (outside ok w) w u (.sl TStatus l)) :
    Calls Try.prog 22 #[u] w fun e w' => ∃ v m, e = .returned v ∧ m ≤ l.length ∧ RowV 21 5 (some 10) w.heap.size v m w' ∧ Below w.heap.size w w' := by
  have hn : Try.f22.ntmps = 5 := rfl
  go_enter Try.func22, hn
  go_wp2_with (go_at_call 31; refine (picked_all hf hok hl hu).mono ?_; rintro e w' ⟨v, m, rfl, hm, hR, hb⟩)
  go_ret
  exact ⟨v, m, rfl, hm, hR, hb⟩
set_option maxRecDepth 1000000 in
theorem membersAll_calls {l : List (El TStatus)} (hf : fits (.sl TStatus) l = true) {ok : Nat → Nat → Prop} {w : World} (hok : ∀ b o, ok b o → b < w.heap.size) (hl : Laid ok w) {u : Value} (hu : VRel (outside ok w) w u (.sl TStatus l)) :
    Calls Try.prog 10 #[u] w fun e w' => ∃ v m, e = .returned v ∧ m ≤ l.length ∧ RowV 21 5 (some 10) w.heap.size v m w' ∧ Below w.heap.size w w' := by
  have hn : Try.f10.ntmps = 5 := rfl
  go_enter Try.func10, hn
  go_wp2_with (go_at_call 31; refine (picked_mem hf hok hl hu).mono ?_; rintro e w' ⟨v, m, rfl, hm, hR, hb⟩)
  go_ret
  exact ⟨v, m, rfl, hm, hR, hb⟩

end Go.Proofs.Ytdoilggfajngiaa
