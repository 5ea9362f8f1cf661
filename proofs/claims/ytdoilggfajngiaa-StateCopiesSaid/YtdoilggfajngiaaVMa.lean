/-
  What is kept, under other names, stands for what was there: at a checkpoint, at a call that is handed boxes.
-/
import Derived.Test.YtdoilggfajngiaaVM
namespace Go.Proofs.Ytdoilggfajngiaa.VE
open Go Go.RowKit

theorem any_beq {i : Nat} {l : List Nat} : l.any (Nat.beq i) = true ↔ i ∈ l := by
  rw [List.any_eq_true]
  constructor
  · rintro ⟨j, hj, e⟩
    rw [Nat.eq_of_beq_eq_true e]; exact hj
  · intro h
    exact ⟨i, h, Nat.beq_refl i⟩

theorem not_any_beq {i : Nat} {l : List Nat} (h : (!l.any (Nat.beq i)) = true) : i ∉ l := fun hi => by
  rw [any_beq.2 hi] at h; cases h

section
variable {M : Nat → Prop} {B : Nat} {O : Nat → Nat → Prop} {n : Nat} {x y : Xs} {h : Nat → Option Box} {u : Nat → Bool} {w : World}

/-- The same memory, named anew. -/
structure Named (x y : Xs) : Prop where
  ok : y.ok = x.ok
  okp : y.okp = x.okp

theorem Named.free (hn : Named x y) {v : Value} {c : IC} (hv : VRel x w v c) (hc : Free c) : VRel y w v c := hv.free hc (by rw [hn.ok]; exact fun _ _ h => h) (by rw [hn.okp]; exact fun _ _ h => h)

theorem snap_free {v : Value} {cs : List IC} {off : Nat} (hv : VRel x w v (.snap cs off)) : Free (.snap cs off) := by
  cases hv with
  | snap _ _ b base rd hfree hcell hel => exact .snap cs off hfree

theorem Named.one (hn : Named x y) {v : Value} {c : IC} (hv : VRel x w v c) (hf : isFn c = false) (hi : ∀ i, i ∈ idOf c → y.g i = x.g i) : VRel y w v c := by
  cases hc : c with
  | v u => subst hc; exact hn.free hv (.v _)
  | sl t xs => subst hc; exact hn.free hv (.sl _ _)
  | junk => exact .junk _
  | snap cs off => subst hc; exact hn.free hv (snap_free hv)
  | psnap cs off => subst hc; exact hn.free hv (psnap_free hv)
  | fn f cap => subst hc; cases hf
  | sref id =>
    subst hc
    cases hv with
    | sref _ q hq => exact .sref id q (by rw [hi id (by simp [idOf])]; exact hq)
  | ref id off =>
    subst hc
    cases hv with
    | ref _ _ q b hq hb => exact .ref id off q b (by rw [hi id (by simp [idOf])]; exact hq) hb
  | eref id wd i off =>
    subst hc
    cases hv with
    | eref _ _ _ _ q b hq hb hlt => exact .eref id wd i off q b (by rw [hi id (by simp [idOf])]; exact hq) hb hlt
  | own a b => subst hc; cases hv
  | anew a b => subst hc; cases hv
  | emp => subst hc; exact hn.free hv .emp
  | view id wd lo n c =>
    subst hc
    cases hv with
    | view _ _ _ _ _ q o hq hle ho hcc => exact .view id wd lo n c q o (by rw [hi id (by simp [idOf])]; exact hq) hle ho hcc
  | mref id =>
    subst hc
    cases hv with
    | mref _ q b hq hb => exact .mref id q b (by rw [hi id (by simp [idOf])]; exact hq) hb

theorem mem_idOf_fn {f : FuncId} {cap : List IC} {c : IC} {i : Nat} (hc : c ∈ cap) (hf : isFn c = false) (hi : i ∈ idOf c) : i ∈ idOf (.fn f cap) := by
  simp only [idOf]
  refine (mem_foldr_app _ _ _).2 ⟨c, hc, ?_⟩
  cases c <;> first | exact hi | (simp [isFn] at hf) | (simp [idOf] at hi)

theorem Named.flat (hn : Named x y) {v : Value} {c : IC} (hv : VRel x w v c) (hf : flat c = true) (hi : ∀ i, i ∈ idOf c → y.g i = x.g i) : VRel y w v c := by
  cases hc : isFn c with
  | false => exact hn.one hv hc hi
  | true =>
    cases c with
    | fn f cap =>
      cases hv with
      | fn _ _ caps hs hel =>
        refine .fn f cap caps hs fun j c hj => ?_
        have hm := List.mem_of_getElem? hj
        have hnf : isFn c = false := by
          have := List.all_eq_true.1 hf c hm
          simpa using this
        exact hn.one (hel j c hj) hnf fun i hi' => hi i (mem_idOf_fn hm hnf hi')
    | _ => cases hc

/-! ### cells -/

/-- How much of a row is told. -/
def lenFix : Box → Gh → Gh
  | .arr _ _ xs _, q => { q with len := xs.length }
  | _, q => q
def gOf (x : Xs) (e : Ent) : Option Gh := match e.2.1 with | some o => (if e.1 = o then x.g o else (x.g o).map (lenFix e.2.2)) | none => some ⟨none, 0, 0⟩

theorem lenFix_blk (b : Box) (q : Gh) : (lenFix b q).blk = q.blk ∧ (lenFix b q).cap = q.cap := by
  unfold lenFix
  split <;> exact ⟨rfl, rfl⟩

theorem lenFix_self {b : Box} {q : Gh} (h : BRel x w q b) : lenFix b q = q := by
  cases h with
  | none _ _ _ h1 h2 h3 => show { q with len := 0 } = q; rw [← h3]
  | arr _ _ xs _ k vs e h1 h2 h3 => show { q with len := xs.length } = q; rw [← h3]
  | _ => rfl

theorem gOf_eq {can id : Nat} {b : Box} {q : Gh} (hq : x.g id = some q) (hl : lenFix b q = q) : gOf x (can, some id, b) = some q := by
  simp only [gOf]
  split
  · exact hq
  · rw [hq, Option.map_some, hl]

theorem gOf_cells {n o ty : Nat} {cs : List IC} : gOf x (n, some o, Box.cells ty cs) = x.g o := by
  simp only [gOf]
  split
  · rfl
  · cases x.g o <;> rfl

theorem gOf_some {e : Ent} {o : Nat} {q : Gh} (he : e.2.1 = some o) (h : gOf x e = some q) : ∃ q0, x.g o = some q0 ∧ q0.blk = q.blk := by
  simp only [gOf, he] at h
  split at h
  · exact ⟨q, h, rfl⟩
  · obtain ⟨q0, h1, h2⟩ := Option.map_eq_some_iff.1 h
    exact ⟨q0, h1, by rw [← h2]; exact (lenFix_blk _ _).1.symm⟩

/-- A box kept: it was there, and it is told right. -/
def GoodE (x y : Xs) (h : Nat → Option Box) (w : World) (e : Ent) : Prop :=
  ∃ q, gOf x e = some q ∧ BRel y w q e.2.2 ∧ match e.2.1 with | some o => ∃ b, h o = some b ∧ b.hot = e.2.2.hot | none => q.blk = none

structure Fit (x y : Xs) (bs : List Ent) (ids : List Nat) : Prop extends Named x y where
  ent : ∀ e, e ∈ bs → y.g e.1 = gOf x e
  ids : ∀ i, i ∈ ids → y.g i = x.g i

theorem Fit.left {b b' : List Ent} {l l' : List Nat} (f : Fit x y (b ++ b') (l ++ l')) : Fit x y b l := ⟨f.toNamed, fun e he => f.ent e (List.mem_append_left _ he), fun i hi => f.ids i (List.mem_append_left _ hi)⟩
theorem Fit.right {b b' : List Ent} {l l' : List Nat} (f : Fit x y (b ++ b') (l ++ l')) : Fit x y b' l' := ⟨f.toNamed, fun e he => f.ent e (List.mem_append_right _ he), fun i hi => f.ids i (List.mem_append_right _ hi)⟩

theorem arr_named (hn : Named x y) {q : Gh} {ty : Nat} {t : Ty} {xs : List (El t)} {fr : Bool} (hb : BRel x w q (.arr ty t xs fr)) : BRel y w q (.arr ty t xs fr) := by
  cases hb with
  | none _ _ _ h1 h2 h3 => exact .none _ _ _ h1 h2 h3
  | arr _ _ _ _ k vs e h1 h2 h3 h4 h5 h6 h7 =>
    exact .arr _ _ _ _ k vs e h1 h2 h3 h4 h5 (fun i el hi j c hj => hn.free (h6 i el hi j c hj) (enc_free t el c (List.mem_of_getElem? hj))) (by rw [hn.ok]; exact h7)

theorem ice_named (hn : Named x y) {q : Gh} {ty : Nat} {cs : List IC} (hb : BRel x w q (.ice ty cs)) : BRel y w q (.ice ty cs) := by
  cases hb with
  | ice _ _ k vs e h1 h2 h3 h4 h5 h6 => exact .ice _ _ k vs e h1 h2 h3 (fun j c hj => hn.free (h4 j c hj) (h5 c (List.mem_of_getElem? hj))) h5 (by rw [hn.ok]; exact h6)

theorem map_named {q : Gh} {κ τ : Ty} {es : Ents κ τ} {c : Nat} (hb : BRel x w q (.map κ τ es c)) : BRel y w q (.map κ τ es c) := by
  cases hb with
  | map _ _ _ _ b h1 h2 => exact .map _ _ _ _ b h1 h2

theorem keepC_sound (r : HRel M B O x h u w) {can : Nat} {lk : LK} {c c' : IC} {bs : List Ent} {ids : List Nat} (H : keepC h can lk c = some (c', bs, ids)) (f : Fit x y bs ids) {v : Value} (hv : VRel x w v c) :
    VRel y w v c' ∧ ∀ e, e ∈ bs → GoodE x y h w e := by
  cases lk with
  | plain =>
    simp only [keepC] at H
    cases hf : flat c with
    | false => rw [hf] at H; cases H
    | true =>
      rw [hf] at H
      simp only [cond_true, Option.some.injEq, Prod.mk.injEq] at H
      obtain ⟨rfl, rfl, rfl⟩ := H
      exact ⟨f.toNamed.flat hv hf f.ids, fun e he => (by cases he)⟩
  | sl t =>
    simp only [keepC] at H
    cases he : elemsF h t c with
    | none => rw [he] at H; cases H
    | some xs =>
      rw [he] at H
      simp only [Option.some.injEq, Prod.mk.injEq] at H
      obtain ⟨rfl, rfl, rfl⟩ := H
      refine ⟨?_, fun e he => (by cases he)⟩
      unfold elemsF at he
      split at he
      · rename_i t' xs'
        unfold asTy at he
        split at he
        · rename_i e
          subst e
          simp only [cast_eq, Option.some.injEq] at he
          subst he
          exact f.toNamed.free hv (.sl _ _)
        · cases he
      · simp only [Option.some.injEq] at he
        subst he
        cases hv with
        | v => exact .sl t [] none 0 (fun _ _ => undef) (Nat.le_refl _) (fun _ => rfl) (fun i hi => absurd hi (by simp)) (fun i e hi => by simp at hi)
      · rename_i id
        split at he
        · rename_i t' xs' hb
          unfold asTy at he
          split at he
          · rename_i e
            subst e
            simp only [cast_eq, Option.some.injEq] at he
            subst he
            exact f.toNamed.free (sref_sl r hb hv) (.sl _ _)
          · cases he
        · cases he
      · cases he
  | arr ty t =>
    simp only [keepC] at H
    split at H
    · simp only [Option.some.injEq, Prod.mk.injEq] at H
      obtain ⟨rfl, rfl, rfl⟩ := H
      have hg := f.ent _ (List.mem_cons_self ..)
      simp only [gOf] at hg
      refine ⟨?_, fun e he => ?_⟩
      · cases hv with
        | v => exact .sref can _ hg
      · simp at he; subst he
        exact ⟨_, rfl, .none _ _ _ rfl rfl rfl, rfl⟩
    · rename_i id
      split at H
      · rename_i ty' t' xs hb
        split at H
        · rename_i e
          obtain ⟨rfl, rfl⟩ := e
          simp only [Option.some.injEq, Prod.mk.injEq] at H
          obtain ⟨rfl, rfl, rfl⟩ := H
          have hg := f.ent _ (List.mem_cons_self ..)
          obtain ⟨q0, hq0, hr⟩ := r.box _ _ hb
          have hge := gOf_eq (can := can) hq0 (lenFix_self hr)
          refine ⟨?_, fun e he => ?_⟩
          · cases hv with
            | sref _ q hq =>
              rw [hq0] at hq; injection hq with hq; subst hq
              exact .sref can q0 (hg.trans hge)
          · simp at he; subst he
            exact ⟨q0, hge, arr_named f.toNamed hr, _, hb, rfl⟩
        · cases H
      · cases H
    · cases H
  | agg l => cases H
  | obj l => cases H
  | fno l => cases H

theorem ofList_mem {α : Type} {d : α} : ∀ {l : List (Nat × α)} {j : Nat}, (∃ p, p ∈ l ∧ p.1 = j ∧ ofList d l j = p.2) ∨ ((∀ p, p ∈ l → p.1 ≠ j) ∧ ofList d l j = d)
  | [], j => .inr ⟨fun p hp => (by cases hp), rfl⟩
  | (i, a) :: r, j => by
    by_cases e : j = i
    · subst e
      exact .inl ⟨(j, a), List.mem_cons_self .., rfl, by simp [ofList]⟩
    · have hb : Nat.beq j i = false := by rw [Bool.eq_false_iff]; intro h; exact e (Nat.eq_of_beq_eq_true h)
      have ho : ofList d ((i, a) :: r) j = ofList d r j := by simp only [ofList, hb, cond_false]
      rcases ofList_mem (d := d) (l := r) (j := j) with ⟨p, hp, h1, h2⟩ | ⟨h1, h2⟩
      · exact .inl ⟨p, List.mem_cons_of_mem _ hp, h1, ho.trans h2⟩
      · refine .inr ⟨fun p hp => ?_, ho.trans h2⟩
        rcases List.mem_cons.1 hp with rfl | hp
        · exact Ne.symm e
        · exact h1 p hp

theorem keepCells_sound (r : HRel M B O x h u w) {id : Nat} {vs : Array Value} : ∀ (cs : List IC) (j : Nat) (lks : List LK) {cs' : List IC} {bs : List Ent} {ids : List Nat}, keepCells h id j lks cs = some (cs', bs, ids) → Fit x y bs ids →
    (∀ i c, cs[i]? = some c → VRel x w (vs.getD (j + i) undef) c) → cs'.length = cs.length ∧ (∀ i c, cs'[i]? = some c → VRel y w (vs.getD (j + i) undef) c) ∧ ∀ e, e ∈ bs → GoodE x y h w e
  | [], j, lks, cs', bs, ids, H, f, hc => by
    simp only [keepCells, Option.some.injEq, Prod.mk.injEq] at H
    obtain ⟨rfl, rfl, rfl⟩ := H
    exact ⟨rfl, fun i c hi => (by simp at hi), fun p hp => (by cases hp)⟩
  | c :: cs, j, lks, cs', bs, ids, H, f, hc => by
    simp only [keepCells] at H
    split at H
    · rename_i a b l a' b' l' h1 h2
      simp only [Option.some.injEq, Prod.mk.injEq] at H
      obtain ⟨rfl, rfl, rfl⟩ := H
      obtain ⟨p1, p2⟩ := keepC_sound r h1 f.left (hc 0 c rfl)
      obtain ⟨q0, q1, q2⟩ := keepCells_sound r (vs := vs) cs (j + 1) lks.tail h2 f.right fun i c hi => by
        have := hc (i + 1) c (by simpa using hi)
        have e : j + 1 + i = j + (i + 1) := by omega
        rw [e]; exact this
      refine ⟨by simp [q0], fun i d hi => ?_, fun e he => (List.mem_append.1 he).elim (p2 e) (q2 e)⟩
      cases i with
      | zero => simp at hi; subst hi; exact p1
      | succ i =>
        have := q1 i d (by simpa using hi)
        have e : j + 1 + i = j + (i + 1) := by omega
        rw [e] at this; exact this
    · cases H

theorem keepO_sound (r : HRel M B O x h u w) {can : Nat} {lks : List LK} {c c' : IC} {bs : List Ent} {ids : List Nat} (H : keepO h can lks c = some (c', bs, ids)) (f : Fit x y bs ids) {v : Value} (hv : VRel x w v c) :
    VRel y w v c' ∧ ∀ e, e ∈ bs → GoodE x y h w e := by
  unfold keepO at H
  split at H
  · rename_i id
    split at H
    · rename_i ty cs hb
      split at H
      · rename_i cs' b l hk
        simp only [Option.some.injEq, Prod.mk.injEq] at H
        obtain ⟨rfl, rfl, rfl⟩ := H
        have f1 : Fit x y b l := ⟨f.toNamed, fun e he => f.ent e (List.mem_cons_of_mem _ he), f.ids⟩
        obtain ⟨q, hq, hr⟩ := r.box _ _ hb
        have hg := f.ent _ (List.mem_cons_self ..)
        have hge : gOf x (can, some id, Box.cells ty cs') = some q := gOf_eq hq rfl
        cases hv with
        | ref _ _ q' bb hq' hb' =>
          rw [hq] at hq'; injection hq' with hq'; subst hq'
          generalize hbx : Box.cells ty cs = bx at hr
          cases hr with
          | none => cases hbx
          | ice => cases hbx
          | arr => cases hbx
          | map => cases hbx
          | row0 => cases hbx
          | row => cases hbx
          | cells ty' cs2 k vs e0 g1 g2 g3 g4 =>
            injection hbx with e1 e2
            subst e1; subst e2
            obtain ⟨q0, q1, q2⟩ := keepCells_sound r (vs := vs) cs 0 lks hk f1 (by simpa using g4)
            refine ⟨.ref can 0 q bb (hg.trans hge) hb', fun e he => ?_⟩
            rcases List.mem_cons.1 he with rfl | he
            · exact ⟨q, hge, .cells _ _ k vs e0 g1 g2 (by rw [g3, q0]) (by simpa using q1), _, hb, rfl⟩
            · exact q2 e he
      · cases H
    · cases H
  · cases H

theorem keepW_sound (r : HRel M B O x h u w) {can ty id wd lo n : Nat} {t : Ty} {c : Option Nat} {c' : IC} {bs : List Ent} {ids : List Nat} (H : keepW h can ty t id wd lo n = some (c', bs, ids)) (f : Fit x y bs ids) {v : Value}
    (hv : VRel x w v (.view id wd lo n c)) (hcut : ∀ b, cutB h (.arr ty t) (.c (.view id wd lo n c)) = some b → b = true) : VRel y w v c' ∧ ∀ e, e ∈ bs → GoodE x y h w e := by
  have main : ∀ (xs : List (El t)) (opn : Bool), h id = some (bif opn then .row ty t xs else .arr ty t xs false) → ¬ can = id → lo = 0 → n ≤ xs.length →
      c' = .sref can → bs = [(can, some id, .arr ty t (xs.take n) false)] → VRel y w v c' ∧ ∀ e, e ∈ bs → GoodE x y h w e := by
    intro xs opn hb hne hlo hn h1 h2
    subst h1; subst h2; subst hlo
    have hg := f.ent _ (List.mem_cons_self ..)
    cases hv with
    | view _ _ _ _ _ q o hq hle ho hcc =>
      have ho0 : o = 0 := by rw [ho (.inr rfl)]; simp
      subst ho0
      have hlt : (xs.take n).length = n := by rw [List.length_take]; omega
      have hge : gOf x (can, some id, Box.arr ty t (xs.take n) false) = some { q with len := n } := by
        simp only [gOf, if_neg hne, hq, Option.map_some, lenFix, hlt]
      refine ⟨?_, fun e he => ?_⟩
      · have := VRel.sref (x := y) (w := w) can { q with len := n } (hg.trans hge)
        simpa using this
      · simp at he; subst he
        obtain ⟨q', hq', hr⟩ := r.box _ _ hb
        rw [hq] at hq'; injection hq' with hq'; subst hq'
        refine ⟨_, hge, ?_, _, hb, by cases opn <;> rfl⟩
        have cutd : ∀ (b : Nat) (vs : Array Value) (e : TypeId), q.blk = some b → w.heap[b]? = some (.cells vs e (0, 0)) → xs.length ≤ q.cap → vs.size = q.cap * width t →
            (∀ i el, xs[i]? = some el → ∀ j c, (enc t el)[j]? = some c → VRel x w (vs.getD (i * width t + j) undef) c) → BRel y w { q with len := n } (.arr ty t (xs.take n) false) := by
          intro b vs e g1 g2 g3 g4 g5
          refine .arr _ _ _ _ b vs e g1 g2 hlt.symm (by rw [hlt]; show n ≤ q.cap; omega) g4 (fun i el hi j c hj => ?_) (fun h => by cases h)
          have hi' : i < n := by
            rcases Nat.lt_or_ge i n with h' | h'
            · exact h'
            · rw [List.getElem?_eq_none (by omega)] at hi; cases hi
          rw [List.getElem?_take_of_lt hi'] at hi
          exact f.toNamed.free (g5 i el hi j c hj) (enc_free t el c (List.mem_of_getElem? hj))
        cases opn with
        | false =>
          cases hr with
          | none _ _ _ g1 g2 g3 =>
            have hn0 : n = 0 := by simpa using hn
            subst hn0
            exact .none _ _ _ g1 g2 rfl
          | arr _ _ _ _ b vs e g1 g2 g3 g4 g5 g6 g7 => exact cutd b vs e g1 g2 g4 g5 g6
        | true =>
          cases hr with
          | row0 _ _ g1 g2 =>
            have hn0 : n = 0 := by simpa using hn
            subst hn0
            exact .none _ _ _ g1 g2 rfl
          | row _ _ _ b vs e g1 g2 g4 g5 g6 => exact cutd b vs e g1 g2 g4 g5 g6
  unfold keepW at H
  split at H
  · rename_i ty' t' xs hb
    split at H
    · rename_i e
      obtain ⟨rfl, rfl, e3, e4, e5⟩ := e
      simp only [Option.some.injEq, Prod.mk.injEq] at H
      obtain ⟨h1, h2, h3⟩ := H
      have := hcut (decide (n ≤ xs.length)) (by simp [cutB, hb])
      exact main xs false hb e5 e4 (of_decide_eq_true this) h1.symm h2.symm
    · cases H
  · rename_i ty' t' xs hb
    split at H
    · rename_i e
      obtain ⟨rfl, rfl, e3, e4, e5⟩ := e
      simp only [Option.some.injEq, Prod.mk.injEq] at H
      obtain ⟨h1, h2, h3⟩ := H
      have := hcut (decide (n ≤ xs.length)) (by simp [cutB, hb])
      exact main xs true hb e5 e4 (of_decide_eq_true this) h1.symm h2.symm
    · cases H
  · cases H

theorem keepF_sound (r : HRel M B O x h u w) {can : Nat} {vs : Array Value} : ∀ (cs : List IC) (j : Nat) (lks : List (Option (List LK))) {cs' : List IC} {bs : List Ent} {ids : List Nat}, keepF h can j lks cs = some (cs', bs, ids) → Fit x y bs ids →
    (∀ i c, cs[i]? = some c → VRel x w (vs.getD (j + i) undef) c) → cs'.length = cs.length ∧ (∀ i c, cs'[i]? = some c → VRel y w (vs.getD (j + i) undef) c) ∧ ∀ e, e ∈ bs → GoodE x y h w e
  | [], j, lks, cs', bs, ids, H, f, hc => by
    simp only [keepF, Option.some.injEq, Prod.mk.injEq] at H
    obtain ⟨rfl, rfl, rfl⟩ := H
    exact ⟨rfl, fun i c hi => (by simp at hi), fun p hp => (by cases hp)⟩
  | c :: cs, j, lks, cs', bs, ids, H, f, hc => by
    simp only [keepF] at H
    split at H
    · rename_i a b l a' b' l' h1 h2
      simp only [Option.some.injEq, Prod.mk.injEq] at H
      obtain ⟨rfl, rfl, rfl⟩ := H
      have one : VRel y w (vs.getD j undef) a ∧ ∀ e, e ∈ b → GoodE x y h w e := by
        unfold keepF1 at h1
        split at h1
        · exact keepO_sound r h1 f.left (hc 0 c rfl)
        · cases hf : isFn c with
          | true => rw [hf] at h1; cases h1
          | false =>
            rw [hf, cond_false] at h1
            exact keepC_sound r h1 f.left (hc 0 c rfl)
      obtain ⟨p1, p2⟩ := one
      obtain ⟨q0, q1, q2⟩ := keepF_sound r (vs := vs) cs (j + 1) lks.tail h2 f.right fun i c hi => by
        have := hc (i + 1) c (by simpa using hi)
        have e : j + 1 + i = j + (i + 1) := by omega
        rw [e]; exact this
      refine ⟨by simp [q0], fun i d hi => ?_, fun e he => (List.mem_append.1 he).elim (p2 e) (q2 e)⟩
      cases i with
      | zero => simp at hi; subst hi; exact p1
      | succ i =>
        have := q1 i d (by simpa using hi)
        have e : j + 1 + i = j + (i + 1) := by omega
        rw [e] at this; exact this
    · cases H

theorem keepFn_sound (r : HRel M B O x h u w) {can : Nat} {lks : List (Option (List LK))} {c c' : IC} {bs : List Ent} {ids : List Nat} (H : keepFn h can lks c = some (c', bs, ids)) (f : Fit x y bs ids) {v : Value} (hv : VRel x w v c) :
    VRel y w v c' ∧ ∀ e, e ∈ bs → GoodE x y h w e := by
  unfold keepFn at H
  split at H
  · rename_i g cap
    split at H
    · rename_i q hq
      simp only [Option.some.injEq, Prod.mk.injEq] at H
      obtain ⟨cap', b', l'⟩ := q
      obtain ⟨rfl, rfl, rfl⟩ := H
      cases hv with
      | fn _ _ caps hs hel =>
        obtain ⟨q0, q1, q2⟩ := keepF_sound r (vs := caps) cap 0 lks hq f (by simpa using hel)
        exact ⟨.fn g cap' caps (by rw [hs, q0]) (by simpa using q1), q2⟩
    · cases H
  · cases H

/-- What is asked ahead of keeping it. -/
def CutOK (h : Nat → Option Box) (lk : LK) (v : IV) : Prop := ∀ b, cutB h lk v = some b → b = true

theorem cutK_some {t : Nat → IV} {k : R} {r : IV × List (Nat × Box)} : ∀ {l : List (Nat × LK)}, cutK h t l k = some r → (∀ p, p ∈ l → CutOK h p.2 (t p.1)) ∧ k = some r
  | [], H => ⟨fun p hp => (by cases hp), H⟩
  | p :: l, H => by
    unfold cutK at H
    cases hc : cutB h p.2 (t p.1) with
    | none =>
      rw [hc] at H
      obtain ⟨h1, h2⟩ := cutK_some (l := l) H
      refine ⟨fun q hq => ?_, h2⟩
      rcases List.mem_cons.1 hq with rfl | hq
      · intro b hb; rw [hc] at hb; cases hb
      · exact h1 q hq
    | some b0 =>
      rw [hc] at H
      obtain ⟨h0, H⟩ := test_some H
      obtain ⟨h1, h2⟩ := cutK_some (l := l) H
      refine ⟨fun q hq => ?_, h2⟩
      rcases List.mem_cons.1 hq with rfl | hq
      · intro b hb; rw [hc] at hb; injection hb with hb; subst hb; exact h0
      · exact h1 q hq

theorem keepV_sound (r : HRel M B O x h u w) {can : Nat} {lk : LK} {c c' : IV} {bs : List Ent} {ids : List Nat} (hcut : CutOK h lk c) (H : keepV h can lk c = some (c', bs, ids)) (f : Fit x y bs ids) {v : Value} (hv : IVRel x w v c) :
    IVRel y w v c' ∧ ∀ e, e ∈ bs → GoodE x y h w e := by
  cases c with
  | c d =>
    have one : ∀ {F : Option (IC × List Ent × List Nat)}, (match F with | some r => some (IV.c r.1, r.2) | none => none) = some (c', bs, ids) → ∃ d', F = some (d', bs, ids) ∧ c' = .c d' := by
      intro F hF
      cases F with
      | none => cases hF
      | some q =>
        obtain ⟨d', b', l'⟩ := q
        simp only [Option.some.injEq, Prod.mk.injEq] at hF
        obtain ⟨rfl, rfl, rfl⟩ := hF
        exact ⟨d', rfl, rfl⟩
    cases hv with
    | c _ _ hv =>
      by_cases ho : ∃ lks, lk = .obj lks
      · obtain ⟨lks, rfl⟩ := ho
        obtain ⟨d', h1, rfl⟩ := one (show (match keepO h can lks d with | some r => some (IV.c r.1, r.2) | none => none) = some (c', bs, ids) from H)
        obtain ⟨k1, k2⟩ := keepO_sound r h1 f hv
        exact ⟨.c _ _ k1, k2⟩
      by_cases hfn : ∃ lks, lk = .fno lks
      · obtain ⟨lks, rfl⟩ := hfn
        obtain ⟨d', h1, rfl⟩ := one (show (match keepFn h can lks d with | some r => some (IV.c r.1, r.2) | none => none) = some (c', bs, ids) from H)
        obtain ⟨k1, k2⟩ := keepFn_sound r h1 f hv
        exact ⟨.c _ _ k1, k2⟩
      · by_cases ha : ∃ ty t, lk = .arr ty t
        · obtain ⟨ty, t, rfl⟩ := ha
          obtain ⟨d', h1, rfl⟩ := one (F := keepA h can ty t d) H
          by_cases hw : ∃ id wd lo n c, d = .view id wd lo n c
          · obtain ⟨id, wd, lo, n, c, rfl⟩ := hw
            obtain ⟨k1, k2⟩ := keepW_sound r (show keepW h can ty t id wd lo n = _ from h1) f hv hcut
            exact ⟨.c _ _ k1, k2⟩
          · have h1 : keepC h can (.arr ty t) d = some (d', bs, ids) := by
              unfold keepA at h1
              split at h1
              · exact (hw ⟨_, _, _, _, _, rfl⟩).elim
              · exact h1
            obtain ⟨k1, k2⟩ := keepC_sound r h1 f hv
            exact ⟨.c _ _ k1, k2⟩
        · obtain ⟨d', h1, rfl⟩ := one (F := keepC h can lk d) (by cases lk <;> first | exact H | exact (ho ⟨_, rfl⟩).elim | exact (ha ⟨_, _, rfl⟩).elim | exact (hfn ⟨_, rfl⟩).elim)
          obtain ⟨k1, k2⟩ := keepC_sound r h1 f hv
          exact ⟨.c _ _ k1, k2⟩
  | agg cs =>
    cases lk with
    | plain =>
      simp only [keepV] at H
      cases hf : cs.all flat with
      | false => rw [hf] at H; cases H
      | true =>
        rw [hf] at H
        simp only [cond_true, Option.some.injEq, Prod.mk.injEq] at H
        obtain ⟨rfl, rfl, rfl⟩ := H
        refine ⟨?_, fun e he => (by cases he)⟩
        cases hv with
        | agg us _ hs hel =>
          refine .agg us cs hs fun j c hj => ?_
          have hm := List.mem_of_getElem? hj
          exact f.toNamed.flat (hel j c hj) (List.all_eq_true.1 hf c hm) fun i hi => f.ids i ((mem_foldr_app _ _ _).2 ⟨c, hm, hi⟩)
    | sl t => cases H
    | arr ty t => cases H
    | obj l => cases H
    | fno l => cases H
    | agg lks =>
      simp only [keepV] at H
      split at H
      · rename_i q hk
        obtain ⟨cs', b', l'⟩ := q
        simp only [Option.some.injEq, Prod.mk.injEq] at H
        obtain ⟨rfl, rfl, rfl⟩ := H
        cases hv with
        | agg us _ hs hel =>
          obtain ⟨q0, q1, q2⟩ := keepCells_sound r (vs := us) cs 0 lks hk f (by simpa using hel)
          exact ⟨.agg us _ (by rw [hs, q0]) (by simpa using q1), q2⟩
      · cases H
  | tup vs => cases H

theorem keepTmps_sound (r : HRel M B O x h u w) {t : Nat → IV} {T : Nat → Value} (hT : ∀ i, IVRel x w (T i) (t i)) : ∀ (l : List (Nat × LK)) {ts : List (Nat × IV)} {bs : List Ent} {ids : List Nat}, (∀ p, p ∈ l → CutOK h p.2 (t p.1)) → keepTmps h t l = some (ts, bs, ids) → Fit x y bs ids →
    (∀ p, p ∈ ts → IVRel y w (T p.1) p.2) ∧ ∀ e, e ∈ bs → GoodE x y h w e
  | [], ts, bs, ids, _, H, f => by
    simp only [keepTmps, Option.some.injEq, Prod.mk.injEq] at H
    obtain ⟨rfl, rfl, rfl⟩ := H
    exact ⟨fun p hp => (by cases hp), fun p hp => (by cases hp)⟩
  | (i, lk) :: l, ts, bs, ids, hc, H, f => by
    simp only [keepTmps] at H
    split at H
    · rename_i a b c a' b' c' h1 h2
      simp only [Option.some.injEq, Prod.mk.injEq] at H
      obtain ⟨rfl, rfl, rfl⟩ := H
      obtain ⟨p1, p2⟩ := keepV_sound r (hc _ (List.mem_cons_self ..)) h1 f.left (hT i)
      obtain ⟨q1, q2⟩ := keepTmps_sound r hT l (fun p hp => hc p (List.mem_cons_of_mem _ hp)) h2 f.right
      refine ⟨fun p hp => ?_, fun e he => ?_⟩
      · rcases List.mem_cons.1 hp with rfl | hp
        · exact p1
        · exact q1 p hp
      · exact (List.mem_append.1 he).elim (p2 e) (q2 e)
    · cases H

theorem keepBoxes_sound (r : HRel M B O x h u w) : ∀ (l : List (Nat × List LK)) {bs : List Ent} {ids : List Nat}, keepBoxes h l = some (bs, ids) → Fit x y bs ids → ∀ e, e ∈ bs → GoodE x y h w e
  | [], bs, ids, H, f => by
    simp only [keepBoxes, Option.some.injEq, Prod.mk.injEq] at H
    obtain ⟨rfl, rfl⟩ := H
    exact fun p hp => (by cases hp)
  | (id, lks) :: l, bs, ids, H, f => by
    simp only [keepBoxes] at H
    split at H
    · rename_i ty cs hb
      split at H
      · rename_i cs' b c b' c' h1 h2
        simp only [Option.some.injEq, Prod.mk.injEq] at H
        obtain ⟨rfl, rfl⟩ := H
        have f1 : Fit x y (b ++ b') (c ++ c') := ⟨f.toNamed, fun e he => f.ent e (List.mem_cons_of_mem _ he), f.ids⟩
        have k2 := keepBoxes_sound r l h2 f1.right
        obtain ⟨q, hq, hr⟩ := r.box _ _ hb
        generalize hbx : Box.cells ty cs = bx at hr
        cases hr with
        | none => cases hbx
        | ice => cases hbx
        | arr => cases hbx
        | map => cases hbx
        | row0 => cases hbx
        | row => cases hbx
        | cells ty' cs2 k vs e0 g1 g2 g3 g4 =>
          injection hbx with e1 e2
          subst e1; subst e2
          obtain ⟨q0, q1, q2⟩ := keepCells_sound r (vs := vs) cs 0 lks h1 f1.left (by simpa using g4)
          intro e he
          rcases List.mem_cons.1 he with rfl | he
          · exact ⟨q, gOf_eq hq rfl, .cells _ _ k vs e0 g1 g2 (by rw [g3, q0]) (by simpa using q1), _, hb, rfl⟩
          · exact (List.mem_append.1 he).elim (q2 e) (k2 e)
      · cases H
    · rename_i ty t xs fr hb
      split at H
      · rename_i bs' ids' h2
        simp only [Option.some.injEq, Prod.mk.injEq] at H
        obtain ⟨rfl, rfl⟩ := H
        have f1 : Fit x y bs' ids' := ⟨f.toNamed, fun e he => f.ent e (List.mem_cons_of_mem _ he), f.ids⟩
        have k2 := keepBoxes_sound r l h2 f1
        obtain ⟨q, hq, hr⟩ := r.box _ _ hb
        intro e he
        rcases List.mem_cons.1 he with rfl | he
        · exact ⟨q, gOf_eq hq (lenFix_self hr), arr_named f.toNamed hr, _, hb, rfl⟩
        · exact k2 e he
      · cases H
    · rename_i ty cs hb
      split at H
      · rename_i bs' ids' h2
        simp only [Option.some.injEq, Prod.mk.injEq] at H
        obtain ⟨rfl, rfl⟩ := H
        have f1 : Fit x y bs' ids' := ⟨f.toNamed, fun e he => f.ent e (List.mem_cons_of_mem _ he), f.ids⟩
        have k2 := keepBoxes_sound r l h2 f1
        obtain ⟨q, hq, hr⟩ := r.box _ _ hb
        intro e he
        rcases List.mem_cons.1 he with rfl | he
        · exact ⟨q, gOf_eq hq (lenFix_self hr), ice_named f.toNamed hr, _, hb, rfl⟩
        · exact k2 e he
      · cases H
    · rename_i κ τ es c hb
      split at H
      · rename_i bs' ids' h2
        simp only [Option.some.injEq, Prod.mk.injEq] at H
        obtain ⟨rfl, rfl⟩ := H
        have f1 : Fit x y bs' ids' := ⟨f.toNamed, fun e he => f.ent e (List.mem_cons_of_mem _ he), f.ids⟩
        have k2 := keepBoxes_sound r l h2 f1
        obtain ⟨q, hq, hr⟩ := r.box _ _ hb
        intro e he
        rcases List.mem_cons.1 he with rfl | he
        · exact ⟨q, gOf_eq hq (lenFix_self hr), map_named hr, _, hb, rfl⟩
        · exact k2 e he
      · cases H
    · cases H
    · cases H

theorem nodup_spec : ∀ {l : List Nat}, nodup l = true → l.Nodup
  | [], _ => .nil
  | i :: r, H => by
    simp only [nodup, Bool.and_eq_true] at H
    exact List.nodup_cons.2 ⟨not_any_beq H.1, nodup_spec H.2⟩

theorem nodup_one {α : Type} {f : α → Nat} : ∀ {l : List α}, (l.map f).Nodup → ∀ {a b : α}, a ∈ l → b ∈ l → f a = f b → a = b
  | [], _, a, b, ha, _, _ => by cases ha
  | c :: l, H, a, b, ha, hb, e => by
    rw [List.map_cons, List.nodup_cons] at H
    rcases List.mem_cons.1 ha with h1 | h1
    · rcases List.mem_cons.1 hb with h2 | h2
      · rw [h1, h2]
      · exact absurd (by rw [← h1, e]; exact List.mem_map_of_mem h2) H.1
    · rcases List.mem_cons.1 hb with h2 | h2
      · exact absurd (by rw [← h2, ← e]; exact List.mem_map_of_mem h1) H.1
      · exact nodup_one H.2 h1 h2 e

theorem olds_one : ∀ {l : List Ent}, (oldsOf l).Nodup → ∀ {a b : Ent} {o : Nat}, a ∈ l → b ∈ l → a.2.1 = some o → b.2.1 = some o → a = b
  | [], _, a, b, o, ha, _, _, _ => by cases ha
  | c :: l, H, a, b, o, ha, hb, ea, eb => by
    have hm : ∀ {d : Ent}, d ∈ l → d.2.1 = some o → o ∈ oldsOf l := fun {d} hd he => (mem_foldr_app _ _ _).2 ⟨d, hd, by simp [he]⟩
    have Hs : oldsOf (c :: l) = (match c.2.1 with | some o => [o] | none => []) ++ oldsOf l := rfl
    rw [Hs] at H
    have H2 : (oldsOf l).Nodup := (List.nodup_append.1 H).2.1
    have H3 : c.2.1 = some o → o ∉ oldsOf l := fun hc hm => by
      rw [hc] at H
      exact (List.nodup_append.1 H).2.2 o (by simp) o hm rfl
    rcases List.mem_cons.1 ha with h1 | h1
    · rcases List.mem_cons.1 hb with h2 | h2
      · rw [h1, h2]
      · exact absurd (hm h2 eb) (H3 (by rw [← h1]; exact ea))
    · rcases List.mem_cons.1 hb with h2 | h2
      · exact absurd (hm h1 ea) (H3 (by rw [← h2]; exact eb))
      · exact olds_one H2 h1 h2 ea eb

/-- The boxes that are kept, under their new names. -/
def keptX (x : Xs) (bs : List Ent) : Xs := ⟨ofList none (bs.map fun e => (e.1, gOf x e)), x.ok, x.okp⟩

theorem keptX_g {bs : List Ent} (m1 : (bs.map (·.1)).Nodup) {e : Ent} (he : e ∈ bs) : (keptX x bs).g e.1 = gOf x e := by
  show ofList none (bs.map fun e => (e.1, gOf x e)) e.1 = _
  rcases ofList_mem (d := (none : Option Gh)) (l := bs.map fun e => (e.1, gOf x e)) (j := e.1) with ⟨p, hp, p1, p2⟩ | ⟨p1, _⟩
  · obtain ⟨e', he', rfl⟩ := List.mem_map.1 hp
    have : e' = e := nodup_one m1 he' he p1
    subst this
    exact p2
  · exact absurd rfl (p1 _ (List.mem_map_of_mem he))

theorem keptX_g0 {bs : List Ent} {i : Nat} {q : Gh} (hi : (keptX x bs).g i = some q) : ∃ e, e ∈ bs ∧ e.1 = i ∧ gOf x e = some q := by
  have hi : ofList none (bs.map fun e => (e.1, gOf x e)) i = some q := hi
  rcases ofList_mem (d := (none : Option Gh)) (l := bs.map fun e => (e.1, gOf x e)) (j := i) with ⟨p, hp, p1, p2⟩ | ⟨_, p2⟩
  · obtain ⟨e', he', rfl⟩ := List.mem_map.1 hp
    exact ⟨e', he', p1, p2.symm.trans hi⟩
  · have := p2.symm.trans hi
    cases this

theorem ofEnt_some {bs : List Ent} {id : Nat} {b : Box} (hb : ofList none (bs.map fun e => (e.1, some e.2.2)) id = some b) : ∃ e, e ∈ bs ∧ e.1 = id ∧ e.2.2 = b := by
  rcases ofList_mem (d := (none : Option Box)) (l := bs.map fun e => (e.1, some e.2.2)) (j := id) with ⟨p, hp, p1, p2⟩ | ⟨_, p2⟩
  · obtain ⟨e', he', rfl⟩ := List.mem_map.1 hp
    have := p2.symm.trans hb
    simp only [Option.some.injEq] at this
    exact ⟨e', he', p1, this⟩
  · have := p2.symm.trans hb
    cases this

theorem HRel.kept (rel : HRel M B O x h u w) {bs : List Ent} (m1 : (bs.map (·.1)).Nodup) (m2 : (oldsOf bs).Nodup) (good : ∀ e, e ∈ bs → GoodE x (keptX x bs) h w e) :
    HRel M B O (keptX x bs) (ofList none (bs.map fun e => (e.1, some e.2.2))) (ofList false (bs.map fun e => (e.1, true))) w := by
  have hg : ∀ e, e ∈ bs → (keptX x bs).g e.1 = gOf x e := fun e he => keptX_g m1 he
  refine ⟨fun id b hb => ?_, fun i j bi bj qi qj k hi hj hqi hqj hki hkj => ?_, fun i bi qi k hi hhot hqi hki => ?_, fun id q hq => ?_, rel.okp, rel.old, rel.big, rel.okb, rel.laid⟩
  · obtain ⟨e, he, rfl, rfl⟩ := ofEnt_some hb
    obtain ⟨q, hq, hr, _⟩ := good e he
    exact ⟨q, (hg e he).trans hq, hr⟩
  · obtain ⟨ei, hei, rfl, rfl⟩ := ofEnt_some hi
    obtain ⟨ej, hej, rfl, rfl⟩ := ofEnt_some hj
    obtain ⟨q1, a1, _, a3⟩ := good ei hei
    obtain ⟨q2, c1, _, c3⟩ := good ej hej
    have hq1 : q1 = qi := by
      have := (hg ei hei).symm.trans hqi
      rw [a1] at this; injection this
    have hq2 : q2 = qj := by
      have := (hg ej hej).symm.trans hqj
      rw [c1] at this; injection this
    subst hq1; subst hq2
    cases hoi : ei.2.1 with
    | none => rw [hoi] at a3; simp only at a3; rw [a3] at hki; cases hki
    | some oi =>
      cases hoj : ej.2.1 with
      | none => rw [hoj] at c3; simp only at c3; rw [c3] at hkj; cases hkj
      | some oj =>
        rw [hoi] at a3; rw [hoj] at c3
        obtain ⟨d1, d2, _⟩ := a3
        obtain ⟨d3, d4, _⟩ := c3
        obtain ⟨z1, y1, x1⟩ := gOf_some hoi a1
        obtain ⟨z2, y2, x2⟩ := gOf_some hoj c1
        have := rel.apart oi oj d1 d3 z1 z2 k d2 d4 y1 y2 (x1.trans hki) (x2.trans hkj)
        subst this
        exact congrArg (·.1) (olds_one m2 hei hej hoi hoj)
  · obtain ⟨e, he, rfl, rfl⟩ := ofEnt_some hi
    obtain ⟨q1, a1, _, a3⟩ := good e he
    have hq1 : q1 = qi := by
      have := (hg e he).symm.trans hqi
      rw [a1] at this; injection this
    subst hq1
    cases hoi : e.2.1 with
    | none => rw [hoi] at a3; simp only at a3; rw [a3] at hki; cases hki
    | some o =>
      rw [hoi] at a3
      obtain ⟨d1, d2, d3⟩ := a3
      obtain ⟨z1, y1, x1⟩ := gOf_some hoi a1
      exact rel.own o d1 z1 k d2 (by rw [d3]; exact hhot) y1 (x1.trans hki)
  · obtain ⟨e, he, rfl, _⟩ := keptX_g0 hq
    show ofList false (bs.map fun e => (e.1, true)) e.1 = true
    rcases ofList_mem (d := false) (l := bs.map fun e => (e.1, true)) (j := e.1) with ⟨p, hp, _, p2⟩ | ⟨p1, _⟩
    · obtain ⟨e', _, rfl⟩ := List.mem_map.1 hp
      exact p2
    · exact absurd rfl (p1 _ (List.mem_map_of_mem he))

theorem keptFit {bs : List Ent} {ls : List Nat} (m1 : (bs.map (·.1)).Nodup) (n3 : ls.all (fun i => bs.any (keptAs i)) = true) : Fit x (keptX x bs) bs ls :=
  ⟨⟨rfl, rfl⟩, fun e he => keptX_g m1 he, fun i hi => by
    have := List.all_eq_true.1 n3 i hi
    obtain ⟨e, he, hk⟩ := List.any_eq_true.1 this
    simp only [keptAs, Bool.and_eq_true] at hk
    have e1 : e.1 = i := Nat.eq_of_beq_eq_true hk.1
    rw [← e1, keptX_g m1 he, gOf]
    cases ho : e.2.1 with
    | none => rw [ho] at hk; exact absurd hk.2 (by simp)
    | some o =>
      rw [ho] at hk
      have h2 := Nat.eq_of_beq_eq_true hk.2
      simp only [e1, h2, if_true]⟩

end
end Go.Proofs.Ytdoilggfajngiaa.VE
