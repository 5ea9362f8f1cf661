/-
  States copied: memory of one's own.
-/
import Derived.Test.YtdoilggfajngiaaSL
import Derived.Test.YtdoilggfajngiaaHS
import Derived.WalkKit
import Derived.BigCall
import Derived.BigQuiet
import Derived.Deep.QuietTactic
import Derived.Deep.MidRow
import Derived.Lib.OthersKept
import Derived.ArgAppend
namespace Go.Proofs.Ytdoilggfajngiaa
open Go VE Go.RowKit

/-- An empty slice is nil, or it is not: where boxes come back. -/
theorem returnsO_nil {P : Program} {g : FuncId} {t : Ty} {res : IV} {b : List (Nat × Box)} (h0 : VE.ReturnsO P g [.c (.v (.slice none 0 0))] [] res b) (h1 : VE.ReturnsO P g [.c .emp] [] res b) : VE.ReturnsO P g [.c (.sl t [])] [] res b := by
  intro w us M O x hx hus ha
  have h := iv_c (ha 0 _ rfl)
  generalize hv : us.getD 0 undef = V at h
  cases h with
  | sl _ _ a cap rd hcap hnil hcell hel =>
    cases a with
    | none =>
      have hc := hnil rfl
      subst hc
      refine h0 w us M O x hx hus fun j c hc => ?_
      cases j with
      | zero => simp at hc; subst hc; rw [hv]; exact .c _ _ (.v _ rfl)
      | succ j => simp at hc
    | some a =>
      refine h1 w us M O x hx hus fun j c hc => ?_
      cases j with
      | zero => simp at hc; subst hc; rw [hv]; exact .c _ _ (.emp a cap)
      | succ j => simp at hc

theorem cloneO_ok : cloneO.OK := cloneO.mkR fun l hx => by
  have hl : fits (.sl TPair) l = true := by
    have h : (fits (.sl TPair) l && true) = true := hx
    simpa using h
  cases l with
  | nil => exact returnsO_nil (cloneON.ret SpecsOK.nil (m := 1) (cloneON.start 0)) (cloneOE.ret SpecsOK.nil (m := 1) (cloneOE.start 0))
  | cons a l => exact cloneOC.ret SpecsOK.nil a l (m := 1) (by rw [cloneOC.start, test_d (by simpa using lim32 hl)]; rfl)

theorem copyO_start_pre {h : El THost} (hh : fits THost h = true) : cloneO.pre (h.2.2.2.2.2, ()) = true := by
  show (fits (.sl TPair) h.2.2.2.2.2 && true) = true
  rw [(fits_host hh).2.2]; rfl

/-- Pairs of one's own, or none. -/
def MetaOK (B : Nat) (row : Option Nat) (u : Value) (w : World) : Prop :=
  ∃ a n c, u = .slice a n c ∧ n ≤ 140737488351232 ∧ (n = 0 ∨ ∃ gi vs e, a = some ⟨gi, 0, none⟩ ∧ B ≤ gi ∧ some gi ≠ row ∧ w.heap[gi]? = some (.cells vs e (0, 0)) ∧ n * 2 ≤ vs.size)

theorem hcopy_calls {h : El THost} (hf : fits THost h = true) {ok : Nat → Nat → Prop} {w : World} (hok : ∀ b o, ok b o → b < w.heap.size) (hl : Laid ok w) {us : Array Value} (hs : us.size = 6)
    (hr : ∀ j c, (enc THost h)[j]? = some c → VRel (outside ok w) w (us.getD j undef) c) :
    Calls Try.prog 35 #[.agg us] w fun e w' => ∃ v, e = .returned (.agg (us.setIfInBounds 5 v)) ∧ MetaOK w.heap.size none v w' ∧ Below w.heap.size w w' := by
  have hrel : HRel (fun _ => False) w.heap.size ok (outside ok w) (ofB []) (ofU []) w :=
    ⟨fun id b hb => (by cases hb), fun i j bi bj qi qj k hi => (by cases hi), fun i bi qi k hi => (by cases hi), fun id q hq => (by cases hq), hok, fun _ _ h => h, Nat.le_refl _, fun _ _ h => .inl h, hl⟩
  have hR := copyO.ret .nil (cloneO_ok.cons' .nil) h (m := 1) (by rw [copyO.start, test_true (copyO_start_pre hf)])
  refine (hR w #[.agg us] (fun _ => False) ok (outside ok w) hrel rfl fun j c hc => ?_).mono fun e w' ⟨v, x', u', he, hfr, hr', hv, _⟩ => ?_
  · cases j with
    | zero =>
      have hc : some (IV.agg (enc THost h)) = some c := hc
      cases hc
      exact .agg _ _ hs hr
    | succ j =>
      have hc : ([] : List IV)[j]? = some c := hc
      simp at hc
  · cases hv with
    | agg vs _ hs' hv' =>
      have hs' : vs.size = 6 := hs'
      have key : ∀ j, j < 6 → j ≠ 5 → vs.getD j undef = us.getD j undef := by
        intro j hj hne
        rcases (by omega : j = 0 ∨ j = 1 ∨ j = 2 ∨ j = 3 ∨ j = 4) with rfl | rfl | rfl | rfl | rfl
        · have a := hr 0 _ rfl
          have b := hv' 0 _ rfl
          generalize us.getD 0 undef = y at a
          generalize vs.getD 0 undef = z at b
          cases a
          cases b
          rfl
        · have a := hr 1 _ rfl
          have b := hv' 1 _ rfl
          generalize us.getD 1 undef = y at a
          generalize vs.getD 1 undef = z at b
          cases a
          cases b
          rfl
        · have a := hr 2 _ rfl
          have b := hv' 2 _ rfl
          generalize us.getD 2 undef = y at a
          generalize vs.getD 2 undef = z at b
          cases a
          cases b
          rfl
        · have a := hr 3 _ rfl
          have b := hv' 3 _ rfl
          generalize us.getD 3 undef = y at a
          generalize vs.getD 3 undef = z at b
          cases a
          cases b
          rfl
        · have a := hr 4 _ rfl
          have b := hv' 4 _ rfl
          generalize us.getD 4 undef = y at a
          generalize vs.getD 4 undef = z at b
          cases a
          cases b
          rfl
      have e1 : vs = us.setIfInBounds 5 (vs.getD 5 undef) := by
        apply Array.ext
        · rw [Array.size_setIfInBounds, hs, hs']
        · intro j h1 h2
          have h3 : j < us.size := by rw [hs, ← hs']; exact h1
          rw [Array.getElem_setIfInBounds]
          by_cases hj : 5 = j
          · subst hj
            rw [if_pos rfl]; simp [Array.getD, h1]
          · rw [if_neg hj]
            have := key j (by omega) (fun e => hj e.symm)
            simpa [Array.getD, h1, h3] using this
      refine ⟨vs.getD 5 undef, by rw [he, ← e1], ?_, hfr.os, hfr.tape, hfr.output, hfr.size, fun k hk => hfr.block k hk (fun h => h)⟩
      have v5 := hv' 5 _ rfl
      generalize vs.getD 5 undef = z at v5
      have hlen := (fits_host hf).2.2
      have hlen : h.2.2.2.2.2.length * 32 ≤ reachBytes := of_decide_eq_true (Bool.and_eq_true_iff.1 hlen).1
      have hR : reachBytes = 140737488351232 := rfl
      cases v5 with
      | sref _ q hq =>
        obtain ⟨q', hq', hbr⟩ := hr'.box 14889738 _ rfl
        rw [hq] at hq'; cases hq'
        generalize h.2.2.2.2.2 = L at hbr hlen
        have hown := fun g hg => (hr'.own 14889738 _ q g rfl rfl hq hg).1.resolve_right (fun h => h)
        cases hbr with
        | none _ _ _ hb hc hl0 => exact ⟨_, _, _, rfl, by omega, .inl hl0⟩
        | arr _ _ _ _ g vs2 e2 hqb hw hl2 hc hs2 hrel2 hfr2 =>
          have hs2 : vs2.size = q.cap * 2 := hs2
          refine ⟨_, _, _, rfl, by omega, .inr ⟨g, vs2, e2, by rw [hqb]; rfl, hown g hqb, by simp, hw, by omega⟩⟩

end Go.Proofs.Ytdoilggfajngiaa
