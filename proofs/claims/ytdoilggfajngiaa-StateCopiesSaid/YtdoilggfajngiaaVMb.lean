/-
  A call that is handed boxes: what comes back, under the caller's names.
-/
import Derived.Test.YtdoilggfajngiaaVMa
namespace Go.Proofs.Ytdoilggfajngiaa.VE
open Go Go.RowKit

section
variable {P : Program} {cfg : Cfg} {M : Nat → Prop} {B key : Nat} {O : Nat → Nat → Prop} {x y : Xs} {h hr : Nat → Option Box} {u : Nat → Bool} {w w' : World} {k : Out → R} {r : IV × List (Nat × Box)}

/-- What names nothing but kept cells is told by whoever keeps them. -/
theorem elTell (hy : ∀ b o, x.ok b o → y.ok b o) : ∀ (t : Ty) (e : El t) (c : IC), c ∈ enc t e → ∀ {v : Value}, VRel x w v c → VRel y w v c
  | .int _, _, _, hc, v, hv => by simp [enc] at hc; subst hc; cases hv with | v _ h1 => exact .v _ h1
  | .bool, _, _, hc, v, hv => by simp [enc] at hc; subst hc; cases hv with | v _ h1 => exact .v _ h1
  | .str, _, _, hc, v, hv => by simp [enc] at hc; subst hc; cases hv with | v _ h1 => exact .v _ h1
  | .sl t, _, _, hc, v, hv => by
    simp [enc] at hc; subst hc
    cases hv with
    | sl _ _ a cap rd hcap hnil hcell hel =>
      exact .sl t _ a cap rd hcap hnil (fun i hi j hj => by
        obtain ⟨ad, p1, p2, p3, p4⟩ := hcell i hi j hj
        exact ⟨ad, p1, p2, hy _ _ p3, p4⟩) fun i e hi j c hc => elTell hy t e c (List.mem_of_getElem? hc) (hel i e hi j c hc)
  | .prod a b, e, c, hc, v, hv => by
    simp only [enc, List.mem_append] at hc
    exact hc.elim (fun h => elTell hy a _ c h hv) (fun h => elTell hy b _ c h hv)
  | .addr, _, _, hc, v, hv => by simp [enc] at hc; subst hc; cases hv with | v _ h1 => exact .v _ h1
  | .pint _, _, _, hc, v, hv => by
    simp [enc] at hc; subst hc
    cases hv with
    | psnap _ _ b base rd hfree hcell hel =>
      refine .psnap _ 0 b base rd hfree (fun j hj => ⟨hy _ _ (hcell j hj).1, (hcell j hj).2⟩) fun j c hj => ?_
      have h1 := hel j c hj
      cases j with
      | zero =>
        simp at hj; subst hj
        generalize rd 0 = V at h1
        cases h1 with | v _ h2 => exact .v _ h2
      | succ j => simp at hj

theorem slTell (hy : ∀ b o, x.ok b o → y.ok b o) {t : Ty} {xs : List (El t)} {v : Value} (hv : VRel x w v (.sl t xs)) : VRel y w v (.sl t xs) := elTell hy (.sl t) xs _ (by simp [enc]) hv

theorem HRel.sub (rel : HRel M B O x h u w) (hsub : ∀ i b, hr i = some b → h i = some b) : HRel M B O x hr u w :=
  ⟨fun id b hb => rel.box id b (hsub _ _ hb), fun i j bi bj qi qj k hi hj => rel.apart i j bi bj qi qj k (hsub _ _ hi) (hsub _ _ hj), fun i bi qi k hi => rel.own i bi qi k (hsub _ _ hi), rel.used, rel.okp, rel.old, rel.big, rel.okb, rel.laid⟩

/-- The blocks of a state's boxes. -/
def blks (x : Xs) (h : Nat → Option Box) (k : Nat) : Prop := ∃ i b q, h i = some b ∧ x.g i = some q ∧ q.blk = some k

/-- Boxes lent: whoever has them may write them, and nothing else that was there. -/
theorem HRel.lend (rel : HRel M B O y h u w) {ok2 K : Nat → Nat → Prop} (h1 : ∀ b o, y.ok b o → ok2 b o) (h2 : ∀ b o, y.okp b o → K b o) (h3 : ∀ b o, ok2 b o → K b o) (h4 : ∀ b o, K b o → b < w.heap.size)
    (h5 : ∀ k, blks y h k → ∀ o, ¬ K k o) : HRel (blks y h) w.heap.size ok2 ⟨y.g, ok2, K⟩ h u w := by
  have he : Ext y w ⟨y.g, ok2, K⟩ w := ⟨fun _ _ h => h, h1, h2, fun _ _ _ => rfl⟩
  refine ⟨fun id b hb => ?_, rel.apart, fun i bi qi k hi _ hq hk => ⟨.inr ⟨i, bi, qi, hi, hq, hk⟩, h5 k ⟨i, bi, qi, hi, hq, hk⟩⟩, rel.used, h3, h4, Nat.le_refl _, fun _ _ h => .inl h, rel.laid.mono h1⟩
  obtain ⟨q, hq, hr⟩ := rel.box id b hb
  exact ⟨q, hq, hr.ext he fun _ _ => rfl⟩

/-! ### names -/

theorem renN_mem : ∀ {l : List (Nat × Nat)} {n k : Nat}, renN l n = some k → (n, k) ∈ l
  | [], _, _, h => by cases h
  | (m, j) :: r, n, k, h => by
    unfold renN at h
    cases hb : Nat.beq m n with
    | true =>
      rw [hb] at h
      simp only [cond_true, Option.some.injEq] at h
      rw [← Nat.eq_of_beq_eq_true hb, ← h]
      exact List.mem_cons_self ..
    | false =>
      rw [hb] at h
      exact List.mem_cons_of_mem _ (renN_mem h)

theorem renN_has : ∀ {l : List (Nat × Nat)} {n : Nat}, n ∈ l.map (·.1) → ∃ k, renN l n = some k
  | [], _, h => by cases h
  | (m, j) :: r, n, h => by
    unfold renN
    cases hb : Nat.beq m n with
    | true => exact ⟨j, rfl⟩
    | false =>
      rw [List.map_cons] at h
      rcases List.mem_cons.1 h with h | h
      · have : Nat.beq m n = true := by rw [h]; exact Nat.beq_refl _
        rw [this] at hb; cases hb
      · exact renN_has h

theorem backNames_fst (bs : List Ent) (key : Nat) : ∀ (i : Nat) (bx : List (Nat × Box)), (backNames bs key i bx).map (·.1) = bx.map (·.1)
  | _, [] => rfl
  | i, (n, b) :: r => by simp only [backNames, List.map_cons, backNames_fst bs key (i + 1) r]

theorem backNames_obj (bs : List Ent) (key : Nat) : ∀ (i : Nat) (bx : List (Nat × Box)) {n k o : Nat}, (n, k) ∈ backNames bs key i bx → objOf bs n = some o → k = o
  | _, [], _, _, _, h, _ => by cases h
  | i, (m, b) :: r, n, k, o, h, ho => by
    simp only [backNames] at h
    rcases List.mem_cons.1 h with h | h
    · simp only [Prod.mk.injEq] at h
      obtain ⟨rfl, rfl⟩ := h
      rw [ho]
    · exact backNames_obj bs key (i + 1) r h ho

theorem newNames_mem {bs : List Ent} : ∀ {l : List (Nat × Nat)} {n k : Nat}, (n, k) ∈ l → objOf bs n = none → k ∈ newNames bs l
  | (m, j) :: r, n, k, h, ho => by
    unfold newNames
    rcases List.mem_cons.1 h with h | h
    · simp only [Prod.mk.injEq] at h
      obtain ⟨rfl, rfl⟩ := h
      rw [ho]
      exact List.mem_cons_self ..
    · have := newNames_mem h ho
      cases objOf bs m with
      | none => exact List.mem_cons_of_mem _ this
      | some _ => exact this

theorem objOf_mem : ∀ {bs : List Ent} {n o : Nat}, objOf bs n = some o → ∃ ty cs, (n, some o, Box.cells ty cs) ∈ bs
  | [], _, _, h => by cases h
  | (m, o', b) :: r, n, o, h => by
    unfold objOf at h
    cases hb : (Nat.beq m n && isCells b) with
    | true =>
      rw [hb] at h
      simp only [cond_true] at h
      simp only [Bool.and_eq_true] at hb
      cases b with
      | cells ty cs =>
        rw [← Nat.eq_of_beq_eq_true hb.1]
        subst h
        exact ⟨ty, cs, List.mem_cons_self ..⟩
      | arr => exact absurd hb.2 (by simp [isCells])
      | ice => exact absurd hb.2 (by simp [isCells])
      | row => exact absurd hb.2 (by simp [isCells])
      | map => exact absurd hb.2 (by simp [isCells])
    | false =>
      rw [hb] at h
      obtain ⟨ty, cs, hm⟩ := objOf_mem (show objOf r n = some o from h)
      exact ⟨ty, cs, List.mem_cons_of_mem _ hm⟩

theorem updMany_cases {α : Type} : ∀ (l : List (Nat × α)) (f : Nat → α) (j : Nat), (∃ p, p ∈ l ∧ p.1 = j ∧ updMany f l j = p.2) ∨ ((∀ p, p ∈ l → p.1 ≠ j) ∧ updMany f l j = f j)
  | [], f, j => .inr ⟨fun p hp => (by cases hp), rfl⟩
  | (i, a) :: r, f, j => by
    rcases updMany_cases r (upd f i a) j with ⟨p, hp, h1, h2⟩ | ⟨h1, h2⟩
    · exact .inl ⟨p, List.mem_cons_of_mem _ hp, h1, h2⟩
    · by_cases e : j = i
      · subst e
        exact .inl ⟨(j, a), List.mem_cons_self .., rfl, by show updMany (upd f j a) r j = a; rw [h2, upd_same]⟩
      · refine .inr ⟨fun p hp => ?_, by show updMany (upd f i a) r j = f j; rw [h2, upd_other _ _ e]⟩
        rcases List.mem_cons.1 hp with rfl | hp
        · exact Ne.symm e
        · exact h1 p hp

theorem updTrue (l : List Nat) (f : Nat → Bool) (i : Nat) (h : f i = true ∨ i ∈ l) : updMany f (l.map fun i => (i, true)) i = true := by
  rcases updMany_cases (l.map fun i => (i, true)) f i with ⟨p, hp, _, h2⟩ | ⟨h1, h2⟩
  · obtain ⟨j, _, rfl⟩ := List.mem_map.1 hp
    exact h2
  · rw [h2]
    rcases h with h | h
    · exact h
    · exact absurd rfl (h1 _ (List.mem_map_of_mem h))

theorem ofB_some {bx : List (Nat × Box)} {n : Nat} {b : Box} (h : ofB bx n = some b) : (n, b) ∈ bx := by
  unfold ofB at h
  rcases ofList_mem (d := (none : Option Box)) (l := bx.map fun e => (e.1, some e.2)) (j := n) with ⟨p, hp, p1, p2⟩ | ⟨_, p2⟩
  · obtain ⟨e, he, rfl⟩ := List.mem_map.1 hp
    have := p2.symm.trans h
    simp only [Option.some.injEq] at this
    simp only at p1
    rw [← p1, ← this]; exact he
  · have := p2.symm.trans h
    cases this

theorem ofB_at {bx : List (Nat × Box)} (hn : (bx.map (·.1)).Nodup) {e : Nat × Box} (he : e ∈ bx) : ofB bx e.1 = some e.2 := by
  unfold ofB
  rcases ofList_mem (d := (none : Option Box)) (l := bx.map fun e => (e.1, some e.2)) (j := e.1) with ⟨p, hp, p1, p2⟩ | ⟨p1, _⟩
  · obtain ⟨e', he', rfl⟩ := List.mem_map.1 hp
    have : e' = e := nodup_one hn he' he p1
    subst this
    exact p2
  · exact absurd rfl (p1 _ (List.mem_map_of_mem he))

theorem ofB_ents (bs : List Ent) : ofB (bs.map fun e => (e.1, e.2.2)) = ofList none (bs.map fun e => (e.1, some e.2.2)) := by
  unfold ofB; rw [List.map_map]; rfl
theorem ofU_ents (bs : List Ent) : ofU (bs.map fun e => (e.1, e.2.2)) = ofList false (bs.map fun e => (e.1, true)) := by
  unfold ofU; rw [List.map_map]; rfl

/-! ### what comes back -/

theorem renC_tell (hok : ∀ b o, x.ok b o → y.ok b o) {l : List (Nat × Nat)} (hg : ∀ n k q, renN l n = some k → x.g n = some q → y.g k = some q) {v : Value} {c : IC} (hv : VRel x w v c) : VRel y w v (renC l c) := by
  cases c with
  | v a => cases hv with | v _ h1 => exact .v _ h1
  | sl t xs => exact slTell hok hv
  | sref n =>
    simp only [renC]
    cases hk : renN l n with
    | none => exact .junk _
    | some k =>
      cases hv with
      | sref _ q hq => exact .sref k q (hg n k q hk hq)
  | ref n off =>
    simp only [renC]
    cases hk : renN l n with
    | none => exact .junk _
    | some k =>
      cases hv with
      | ref _ _ q b hq hb => exact .ref k off q b (hg n k q hk hq) hb
  | _ => exact .junk _

theorem renV_tell (hok : ∀ b o, x.ok b o → y.ok b o) {l : List (Nat × Nat)} (hg : ∀ n k q, renN l n = some k → x.g n = some q → y.g k = some q) {v : Value} {c : IV} (hv : IVRel x w v c) : IVRel y w v (renV l c) := by
  have hagg : ∀ {us : Array Value} {cs : List IC}, us.size = cs.length → (∀ j c, cs[j]? = some c → VRel x w (us.getD j undef) c) → IVRel y w (.agg us) (.agg (cs.map (renC l))) := fun {us cs} hs h => by
    refine .agg _ _ (by simpa using hs) fun j c hc => ?_
    rw [List.getElem?_map] at hc
    cases hj : cs[j]? with
    | none => simp [hj] at hc
    | some d =>
      simp [hj] at hc; subst hc
      exact renC_tell hok hg (h j d hj)
  cases hv with
  | c u c h => exact .c _ _ (renC_tell hok hg h)
  | agg us cs hs h => exact hagg hs h
  | tup us vs hs h =>
    refine .tup _ _ (by simpa using hs) fun j c hc => ?_
    rw [List.getElem?_map] at hc
    cases hj : vs[j]? with
    | none => simp [hj] at hc
    | some d =>
      simp [hj] at hc; subst hc
      have h1 := h j d hj
      generalize us.getD j undef = V at h1 ⊢
      cases h1 with
      | c _ c h2 => exact .c _ _ (renC_tell hok hg h2)
      | agg us cs hs h => exact hagg hs h
      | tup => exact .c _ _ (.junk _)

theorem renB_tell (hok : ∀ b o, x.ok b o → y.ok b o) {l : List (Nat × Nat)} (hg : ∀ n k q, renN l n = some k → x.g n = some q → y.g k = some q) {q : Gh} {b : Box} (hb : outB b = true) (hr : BRel x w q b) : BRel y w q (renB l b) := by
  cases hr with
  | cells ty cs bk vs e h1 h2 h3 h4 =>
    refine .cells ty _ bk vs e h1 h2 (by simpa using h3) fun j c hc => ?_
    rw [List.getElem?_map] at hc
    cases hj : cs[j]? with
    | none => simp [hj] at hc
    | some d =>
      simp [hj] at hc; subst hc
      exact renC_tell hok hg (h4 j d hj)
  | ice => cases hb
  | map => cases hb
  | row0 => cases hb
  | row => cases hb
  | none ty t fr h1 h2 h3 => exact .none ty t fr h1 h2 h3
  | arr ty t xs fr bk vs e h1 h2 h3 h4 h5 h6 h7 =>
    exact .arr ty t xs fr bk vs e h1 h2 h3 h4 h5 (fun i el hi j c hc => elTell hok t el c (List.mem_of_getElem? hc) (h6 i el hi j c hc)) fun hf => by
      subst hf; cases hb

theorem outB_hot {b : Box} (h : outB b = true) : b.hot = true := by
  cases b with
  | cells => rfl
  | arr ty t xs fr => cases fr with | true => cases h | false => rfl
  | ice => cases h
  | row => cases h
  | map => cases h

theorem renB_hot {l : List (Nat × Nat)} {b : Box} : (renB l b).hot = b.hot := by cases b <;> rfl

theorem mem_olds {bs : List Ent} {e : Ent} {o : Nat} (he : e ∈ bs) (ho : e.2.1 = some o) : o ∈ oldsOf bs := (mem_foldr_app _ _ _).2 ⟨e, he, by simp [ho]⟩

/-- The caller's state behind a call that was handed boxes. -/
theorem HRel.back (rel : HRel M B O x h u w) {bs : List Ent} {MB : Nat → Prop} (hMB : ∀ k, MB k → ∃ e, e ∈ bs ∧ ∃ o q b, e.2.1 = some o ∧ h o = some b ∧ b.hot = true ∧ x.g o = some q ∧ q.blk = some k)
    {x' : Xs} {bx : List (Nat × Box)} {u' : Nat → Bool} (hfr : Fr MB w.heap.size w w') (rel' : HRel MB w.heap.size x.ok x' (ofB bx) u' w')
    {l : List (Nat × Nat)} (hl1 : l.map (·.1) = bx.map (·.1)) (hn1 : (l.map (·.1)).Nodup) (hn2 : (l.map (·.2)).Nodup) (hout : ∀ e, e ∈ bx → outB e.2 = true)
    (hobj : ∀ n k o, (n, k) ∈ l → objOf bs n = some o → k = o ∧ ∃ q, x.g o = some q ∧ x'.g n = some q)
    {news : List Nat} (hnew : ∀ n k, (n, k) ∈ l → objOf bs n = none → k ∈ news) (hfresh : ∀ k, k ∈ news → u k = false) :
    ∃ z, Ext x w z w' ∧ Fr M B w w' ∧ HRel M B O z (updMany (updMany h ((oldsOf bs).map fun i => (i, none))) (bx.map fun e => ((renN l e.1).getD 0, some (renB l e.2)))) (updMany u (news.map fun i => (i, true))) w' ∧
      ∀ v c, IVRel x' w' v c → IVRel z w' v (renV l c) := by
  classical
  have hMB2 : ∀ k, MB k → (B ≤ k ∨ M k) ∧ (∀ o, ¬ x.okp k o) ∧ k < w.heap.size := fun k hk => by
    obtain ⟨e, he, o, q, b, h1, h2, h3, h4, h5⟩ := hMB k hk
    obtain ⟨p1, p2⟩ := rel.own o b q k h2 h3 h4 h5
    obtain ⟨q', hq', hr⟩ := rel.box o b h2
    rw [h4] at hq'; injection hq' with hq'; subst hq'
    obtain ⟨_, hw⟩ := hr.blk h5
    exact ⟨p1, p2, lt_of_some hw⟩
  have hrem : ∀ i b q k, h i = some b → i ∉ oldsOf bs → x.g i = some q → q.blk = some k → ¬ MB k ∧ k < w.heap.size := fun i b q k hi hni hq hk => by
    refine ⟨fun hm => ?_, ?_⟩
    · obtain ⟨e, he, o, q', b', h1, h2, h3, h4, h5⟩ := hMB k hm
      have := rel.apart i o b b' q q' k hi h2 hq h4 hk h5
      subst this
      exact hni (mem_olds he h1)
    · obtain ⟨q', hq', hr⟩ := rel.box i b hi
      rw [hq] at hq'; injection hq' with hq'; subst hq'
      obtain ⟨_, hw⟩ := hr.blk hk
      exact lt_of_some hw
  have hnb : (bx.map (·.1)).Nodup := hl1 ▸ hn1
  -- the names
  let isNew (k n : Nat) : Prop := (n, k) ∈ l ∧ objOf bs n = none
  let gz : Nat → Option Gh := fun k => if hx : ∃ n, isNew k n then x'.g (Classical.choose hx) else x.g k
  have gz_new : ∀ n k, (n, k) ∈ l → objOf bs n = none → gz k = x'.g n := fun n k h1 h2 => by
    have hx : ∃ n, isNew k n := ⟨n, h1, h2⟩
    have hc := Classical.choose_spec hx
    show (if hx : ∃ n, isNew k n then x'.g (Classical.choose hx) else x.g k) = _
    rw [dif_pos hx]
    have : (Classical.choose hx, k) = (n, k) := nodup_one hn2 hc.1 h1 rfl
    rw [(Prod.mk.inj this).1]
  have gz_old : ∀ k q, x.g k = some q → gz k = some q := fun k q hq => by
    show (if hx : ∃ n, isNew k n then x'.g (Classical.choose hx) else x.g k) = _
    rw [dif_neg, hq]
    rintro ⟨n, h1, h2⟩
    have h3 := hfresh k (hnew n k h1 h2)
    rw [rel.used k q hq] at h3
    cases h3
  have gz_inv : ∀ k q, gz k = some q → k ∈ news ∨ x.g k = some q := fun k q hq => by
    by_cases hx : ∃ n, isNew k n
    · obtain ⟨n, h1, h2⟩ := hx
      exact .inl (hnew n k h1 h2)
    · right
      have : (if hx : ∃ n, isNew k n then x'.g (Classical.choose hx) else x.g k) = some q := hq
      rw [dif_neg hx] at this
      exact this
  let okz : Nat → Nat → Prop := fun b o => x.ok b o ∨ (x'.ok b o ∧ (w.heap.size ≤ b ∨ MB b))
  let okpz : Nat → Nat → Prop := fun b o => x.okp b o ∨ (x'.okp b o ∧ (w.heap.size ≤ b ∨ MB b))
  have hok : ∀ b o, x'.ok b o → okz b o := fun b o hb => (rel'.okb b o hb).elim .inl fun h => .inr ⟨hb, h⟩
  have hren : ∀ n k q, renN l n = some k → x'.g n = some q → gz k = some q := fun n k q h1 h2 => by
    have hm := renN_mem h1
    cases ho : objOf bs n with
    | none => rw [gz_new n k hm ho]; exact h2
    | some o =>
      obtain ⟨rfl, q', h3, h4⟩ := hobj n k o hm ho
      rw [h2] at h4; injection h4 with h4; subst h4
      exact gz_old _ _ h3
  have hext : Ext x w ⟨gz, okz, okpz⟩ w' := by
    refine ⟨gz_old, fun _ _ h => .inl h, fun _ _ h => .inl h, fun b o hb => ?_⟩
    have hp : x.okp b o := hb.elim (fun h => h) (rel.okp b o)
    exact cell_congr (hfr.block b (rel.old b o hp) fun hm => (hMB2 b hm).2.1 o hp) o
  -- a box that comes back
  have hback : ∀ e, e ∈ bx → ∃ k q, renN l e.1 = some k ∧ (e.1, k) ∈ l ∧ x'.g e.1 = some q ∧ gz k = some q ∧ BRel x' w' q e.2 := fun e he => by
    obtain ⟨k, hk⟩ := renN_has (l := l) (n := e.1) (by rw [hl1]; exact List.mem_map_of_mem he)
    obtain ⟨q, hq, hr⟩ := rel'.box e.1 e.2 (ofB_at hnb he)
    exact ⟨k, q, hk, renN_mem hk, hq, hren _ _ _ hk hq, hr⟩
  have hcases : ∀ i b, updMany (updMany h ((oldsOf bs).map fun i => (i, none))) (bx.map fun e => ((renN l e.1).getD 0, some (renB l e.2))) i = some b →
      (∃ e, e ∈ bx ∧ renN l e.1 = some i ∧ b = renB l e.2) ∨ (h i = some b ∧ i ∉ oldsOf bs) := fun i b hb => by
    rcases updMany_cases (bx.map fun e => ((renN l e.1).getD 0, some (renB l e.2))) (updMany h ((oldsOf bs).map fun i => (i, none))) i with ⟨p, hp, h1, h2⟩ | ⟨_, h2⟩
    · obtain ⟨e, he, rfl⟩ := List.mem_map.1 hp
      obtain ⟨k, q, hk, _⟩ := hback e he
      rw [h2] at hb
      simp only [Option.some.injEq] at hb
      simp only [hk, Option.getD_some] at h1
      exact .inl ⟨e, he, by rw [hk, h1], hb.symm⟩
    · rw [h2] at hb
      rcases updMany_cases ((oldsOf bs).map fun i => (i, (none : Option Box))) h i with ⟨p, hp, h3, h4⟩ | ⟨h3, h4⟩
      · obtain ⟨o, _, rfl⟩ := List.mem_map.1 hp
        rw [h4] at hb; cases hb
      · rw [h4] at hb
        exact .inr ⟨hb, fun hi => h3 _ (List.mem_map_of_mem hi) rfl⟩
  refine ⟨⟨gz, okz, okpz⟩, hext, ⟨hfr.os, hfr.tape, hfr.output, hfr.size, fun k hk hm => hfr.block k (by have := rel.big; omega) fun hmb => ?_⟩, ?_, fun v c hv => renV_tell hok hren hv⟩
  · rcases (hMB2 k hmb).1 with h1 | h1
    · omega
    · exact hm h1
  refine ⟨fun i b hi => ?_, fun i j bi bj qi qj k hi hj hqi hqj hki hkj => ?_, fun i b q k hi hh hq hk => ?_, fun i q hq => ?_, fun b o hb => ?_, fun b o hb => ?_, ?_, fun b o hb => ?_, rel.laid.ext hext⟩
  · rcases hcases i b hi with ⟨e, he, hk, rfl⟩ | ⟨hi, hni⟩
    · obtain ⟨k, q, hk', hm, hq, hz, hr⟩ := hback e he
      rw [hk] at hk'; injection hk' with hk'; subst hk'
      exact ⟨q, hz, renB_tell hok hren (hout e he) hr⟩
    · obtain ⟨q, hq, hr⟩ := rel.box i b hi
      refine ⟨q, gz_old i q hq, hr.ext hext fun k hk => ?_⟩
      obtain ⟨h1, h2⟩ := hrem i b q k hi hni hq hk
      exact hfr.block k h2 h1
  · -- apart
    have side : ∀ i b q k, ((∃ e, e ∈ bx ∧ renN l e.1 = some i ∧ b = renB l e.2) ∨ (h i = some b ∧ i ∉ oldsOf bs)) → gz i = some q → q.blk = some k →
        (∃ e, e ∈ bx ∧ renN l e.1 = some i ∧ x'.g e.1 = some q ∧ (w.heap.size ≤ k ∨ MB k)) ∨ (h i = some b ∧ x.g i = some q ∧ ¬ MB k ∧ k < w.heap.size) := fun i b q k hc hq hk => by
      rcases hc with ⟨e, he, hn, rfl⟩ | ⟨hi, hni⟩
      · obtain ⟨k', q', hk', hm, hq', hz, hr⟩ := hback e he
        rw [hn] at hk'; injection hk' with hk'; subst hk'
        have hq2 : gz i = some q := hq
        rw [hz] at hq2; injection hq2 with hq2; subst hq2
        exact .inl ⟨e, he, hn, hq', (rel'.own e.1 e.2 q' k (ofB_at hnb he) (outB_hot (hout e he)) hq' hk).1⟩
      · obtain ⟨q', hq', _⟩ := rel.box i b hi
        have hq2 : gz i = some q := hq
        rw [gz_old i q' hq'] at hq2; injection hq2 with hq2; subst hq2
        obtain ⟨h1, h2⟩ := hrem i b q' k hi hni hq' hk
        exact .inr ⟨hi, hq', h1, h2⟩
    rcases side i bi qi k (hcases i bi hi) hqi hki with ⟨ei, hei, hni, hgi, hci⟩ | ⟨hi', hgi, hmi, hli⟩
    · rcases side j bj qj k (hcases j bj hj) hqj hkj with ⟨ej, hej, hnj, hgj, hcj⟩ | ⟨hj', hgj, hmj, hlj⟩
      · have := rel'.apart ei.1 ej.1 ei.2 ej.2 qi qj k (ofB_at hnb hei) (ofB_at hnb hej) hgi hgj hki hkj
        rw [this, hnj] at hni
        injection hni with hni
        exact hni.symm
      · rcases hci with h1 | h1
        · omega
        · exact absurd h1 hmj
    · rcases side j bj qj k (hcases j bj hj) hqj hkj with ⟨ej, hej, hnj, hgj, hcj⟩ | ⟨hj', hgj, hmj, hlj⟩
      · rcases hcj with h1 | h1
        · omega
        · exact absurd h1 hmi
      · exact rel.apart i j bi bj qi qj k hi' hj' hgi hgj hki hkj
  · -- own
    rcases hcases i b hi with ⟨e, he, hn, rfl⟩ | ⟨hi', hni⟩
    · obtain ⟨k', q', hk', hm, hq', hz, hr⟩ := hback e he
      rw [hn] at hk'; injection hk' with hk'; subst hk'
      have hq2 : gz i = some q := hq
      rw [hz] at hq2; injection hq2 with hq2; subst hq2
      obtain ⟨p1, p2⟩ := rel'.own e.1 e.2 q' k (ofB_at hnb he) (outB_hot (hout e he)) hq' hk
      refine ⟨?_, fun o ho => ?_⟩
      · rcases p1 with p1 | p1
        · have := rel.big
          exact .inl (by omega)
        · exact (hMB2 k p1).1
      · rcases ho with ho | ⟨ho, _⟩
        · rcases p1 with p1 | p1
          · have := rel.old k o ho; omega
          · exact (hMB2 k p1).2.1 o ho
        · exact p2 o ho
    · obtain ⟨q', hq', _⟩ := rel.box i b hi'
      have hq2 : gz i = some q := hq
      rw [gz_old i q' hq'] at hq2; injection hq2 with hq2; subst hq2
      obtain ⟨p1, p2⟩ := rel.own i b q' k hi' hh hq' hk
      obtain ⟨h1, h2⟩ := hrem i b q' k hi' hni hq' hk
      refine ⟨p1, fun o ho => ?_⟩
      rcases ho with ho | ⟨_, ho | ho⟩
      · exact p2 o ho
      · omega
      · exact h1 ho
  · exact updTrue news u i ((gz_inv i q hq).elim .inr fun h => .inl (rel.used i q h))
  · exact hb.imp (rel.okp b o) fun ⟨h1, h2⟩ => ⟨rel'.okp b o h1, h2⟩
  · rcases hb with hb | ⟨hb, _⟩
    · have h1 := rel.old b o hb
      have h2 := hfr.size
      omega
    · exact rel'.old b o hb
  · have h1 := rel.big
    have h2 := hfr.size
    omega
  · rcases hb with hb | ⟨_, hb | hb⟩
    · exact rel.okb b o hb
    · have := rel.big
      exact .inr (.inl (by omega))
    · exact (hMB2 b hb).1.elim (fun h => .inr (.inl h)) fun h => .inr (.inr h)

end
end Go.Proofs.Ytdoilggfajngiaa.VE
