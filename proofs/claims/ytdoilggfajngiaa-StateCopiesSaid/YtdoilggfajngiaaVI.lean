/-
  Each operation of the ideal machine is the model's, continued: elements, slice literals, stores, slices of slices.
-/
import Derived.Test.YtdoilggfajngiaaVH
namespace Go.Proofs.Ytdoilggfajngiaa.VE
open Go Go.RowKit

section
variable {P : Program} {cfg : Cfg} {M : Nat → Prop} {B key : Nat} {O : Nat → Nat → Prop} {x : Xs} {h hr : Nat → Option Box} {u : Nat → Bool} {w : World} {k : Out → R} {r : IV × List (Nat × Box)}

/-- 'c' tells less than 'd' does. -/
def Tells (c d : IC) : Prop := ∀ x w v, VRel x w v c → VRel x w v d

theorem dec_get : ∀ (t : Ty) (cs : List IC) (e : El t) (rest : List IC), dec t cs = some (e, rest) →
    width t ≤ cs.length ∧ rest = cs.drop (width t) ∧ ∀ (j : Nat) (d : IC), (enc t e)[j]? = some d → ∃ c : IC, cs[j]? = some c ∧ Tells c d
  | .int k, cs, e, rest, H => by
    match cs, H with
    | .v (.int k' n) :: r, H =>
      simp only [dec] at H
      split at H
      · rename_i hk; injection H with H; injection H with h1 h2; subst h1 h2 hk
        refine ⟨by simp [width], by simp [width], fun j d hj => ?_⟩
        cases j with
        | zero => simp [enc] at hj; subst hj; exact ⟨_, rfl, fun _ _ _ h => h⟩
        | succ j => simp [enc] at hj
      · cases H
  | .bool, cs, e, rest, H => by
    match cs, H with
    | .v (.bool b) :: r, H =>
      simp only [dec] at H
      injection H with H; injection H with h1 h2; subst h1 h2
      refine ⟨by simp [width], by simp [width], fun j d hj => ?_⟩
      cases j with
      | zero => simp [enc] at hj; subst hj; exact ⟨_, rfl, fun _ _ _ h => h⟩
      | succ j => simp [enc] at hj
  | .str, cs, e, rest, H => by
    match cs, H with
    | .v (.string b) :: r, H =>
      simp only [dec] at H
      injection H with H; injection H with h1 h2; subst h1 h2
      refine ⟨by simp [width], by simp [width], fun j d hj => ?_⟩
      cases j with
      | zero => simp [enc] at hj; subst hj; exact ⟨_, rfl, fun _ _ _ h => h⟩
      | succ j => simp [enc] at hj
  | .sl t, cs, e, rest, H => by
    match cs, H with
    | .sl t' xs :: r, H =>
      simp only [dec] at H
      split at H
      · rename_i hk; subst hk; injection H with H; injection H with h1 h2; subst h1 h2
        refine ⟨by simp [width], by simp [width], fun j d hj => ?_⟩
        cases j with
        | zero => simp [enc] at hj; subst hj; exact ⟨_, rfl, fun _ _ _ h => h⟩
        | succ j => simp [enc] at hj
      · cases H
    | .v (.slice none 0 0) :: r, H =>
      simp only [dec] at H
      injection H with H; injection H with h1 h2; subst h1 h2
      refine ⟨by simp [width], by simp [width], fun j d hj => ?_⟩
      cases j with
      | zero =>
        simp [enc] at hj; subst hj
        refine ⟨_, rfl, fun x w v hv => ?_⟩
        cases hv
        exact .sl t [] none 0 (fun _ _ => undef) (Nat.le_refl _) (fun _ => rfl) (fun i hi => absurd hi (by simp)) (fun i e hi => by simp at hi)
      | succ j => simp [enc] at hj
  | .addr, cs, e, rest, H => by
    match cs, H with
    | .v (.pointer (some ⟨b, o, none⟩)) :: r, H =>
      simp only [dec] at H
      injection H with H; injection H with h1 h2; subst h1 h2
      refine ⟨by simp [width], by simp [width], fun j d hj => ?_⟩
      cases j with
      | zero => simp [enc] at hj; subst hj; exact ⟨_, rfl, fun _ _ _ h => h⟩
      | succ j => simp [enc] at hj
  | .pint k, cs, e, rest, H => by
    match cs, H with
    | .psnap cells off :: r, H =>
      simp only [dec] at H
      split at H
      · rename_i k' n hcell
        split at H
        · rename_i hk
          subst hk
          injection H with H; injection H with h1 h2; subst h1 h2
          refine ⟨by simp [width], by simp [width], fun j d hj => ?_⟩
          cases j with
          | zero =>
            simp [enc] at hj; subst hj
            refine ⟨_, rfl, fun x w v hv => ?_⟩
            cases hv with
            | psnap _ _ b base rd hfree hc hel =>
              have hlt : off < cells.length := (List.getElem?_eq_some_iff.1 hcell).1
              have := VRel.psnap (x := x) (w := w) [.v (.int k' n)] 0 b (base + off) (fun _ => rd off) (fun c hc => by simp at hc; subst hc; exact .v _) (fun j hj => by
                have : j = 0 := by simpa using hj
                subst this
                exact hc off hlt) (fun j c hj => by
                cases j with
                | zero => simp at hj; subst hj; exact hel off _ hcell
                | succ j => simp at hj)
              rwa [Nat.add_zero] at this
          | succ j => simp [enc] at hj
        · cases H
      · cases H
  | .prod a b, cs, e, rest, H => by
    simp only [dec] at H
    cases ha : dec a cs with
    | none => simp [ha] at H
    | some q =>
      obtain ⟨e1, r1⟩ := q
      simp only [ha] at H
      cases hb : dec b r1 with
      | none => simp [hb] at H
      | some q' =>
        obtain ⟨e2, r2⟩ := q'
        simp only [hb] at H
        injection H with H; injection H with h1 h2; subst h1 h2
        obtain ⟨l1, d1, g1⟩ := dec_get a cs e1 r1 ha
        obtain ⟨l2, d2, g2⟩ := dec_get b r1 e2 r2 hb
        subst d1
        refine ⟨by simp [width] at l2 ⊢; omega, by rw [d2, width, List.drop_drop], fun j d hj => ?_⟩
        simp only [enc] at hj
        by_cases hlt : j < width a
        · rw [List.getElem?_append_left (by rw [enc_length]; exact hlt)] at hj
          exact g1 j d hj
        · rw [List.getElem?_append_right (by rw [enc_length]; omega), enc_length] at hj
          obtain ⟨c, hc, ht⟩ := g2 _ d hj
          rw [List.getElem?_drop] at hc
          exact ⟨c, by rw [← hc]; congr 1; omega, ht⟩

theorem dec1_get {t : Ty} {cs : List IC} {e : El t} (H : dec1 t cs = some e) : cs.length = width t ∧ ∀ (j : Nat) (d : IC), (enc t e)[j]? = some d → ∃ c : IC, cs[j]? = some c ∧ Tells c d := by
  unfold dec1 at H
  cases hd : dec t cs with
  | none => simp [hd] at H
  | some q =>
    obtain ⟨e', r⟩ := q
    cases r with
    | nil =>
      simp [hd] at H; subst H
      obtain ⟨h1, h2, h3⟩ := dec_get t cs e' [] hd
      refine ⟨?_, h3⟩
      have := congrArg List.length h2
      simp at this; omega
    | cons a l => simp [hd] at H

theorem asTy_some {t t' : Ty} {xs : List (El t')} {ys : List (El t)} (H : asTy t t' xs = some ys) : ∃ e : t' = t, ys = cast (congrArg (fun z => List (El z)) e) xs := by
  unfold asTy at H
  split at H
  · injection H with H; exact ⟨‹_›, H.symm⟩
  · cases H

/-- A slice's elements in memory. -/
structure SlRow (x : Xs) (w : World) (t : Ty) (ys : List (El t)) (a : Option Addr) (cp : Nat) (rd : Nat → Nat → Value) : Prop where
  cap : ys.length ≤ cp
  nil : a = none → cp = 0
  cell : ∀ i, i < ys.length → ∀ j, j < width t → ∃ ad, a = some ad ∧ ad.spot = none ∧ w.cell? ⟨ad.block, ad.off + (i * width t + j), none⟩ = some (rd i j)
  el : ∀ (i : Nat) (e : El t), ys[i]? = some e → ∀ (j : Nat) (c : IC), (enc t e)[j]? = some c → VRel x w (rd i j) c

theorem box_row {q : Gh} {ty : Nat} {t : Ty} {xs : List (El t)} {fr : Bool} (hbr : BRel x w q (.arr ty t xs fr)) :
    q.len = xs.length ∧ ∃ rd, SlRow x w t xs (q.blk.map fun b => ⟨b, 0, none⟩) q.cap rd := by
  cases hbr with
  | none _ _ _ h1 h2 h3 =>
    refine ⟨h3, fun _ _ => undef, ⟨Nat.zero_le _, fun _ => h2, fun i hi => absurd hi (by simp), fun i e hi => by simp at hi⟩⟩
  | arr _ _ _ _ b vs e hb hw hl hc hs hrel hfr =>
    refine ⟨hl, fun i j => vs.getD (i * width t + j) undef, ⟨hc, fun hn => by rw [hb] at hn; simp at hn, fun i hi j hj => ⟨⟨b, 0, none⟩, by rw [hb]; rfl, rfl, ?_⟩, hrel⟩⟩
    have hlt : i * width t + j < vs.size := by
      rw [hs]
      have : (i + 1) * width t ≤ q.cap * width t := Nat.mul_le_mul_right _ (by omega)
      rw [Nat.add_mul] at this; omega
    rw [Nat.zero_add, cell_of hw]
    simp [Array.getD, hlt]

theorem elems_sound (rel : HRel M B O x h u w) (hsub : ∀ i b, hr i = some b → h i = some b) {t : Ty} {a : IV} {A : Value} {ys : List (El t)} (ha : IVRel x w A a) (H : elems hr t a = some ys) :
    ∃ ad cap rd, A = .slice ad ys.length cap ∧ SlRow x w t ys ad cap rd := by
  unfold elems at H
  split at H
  · rename_i t' xs
    obtain ⟨e, he⟩ := asTy_some H
    subst e; subst he
    cases iv_c ha with
    | sl _ _ ad cap rd hcap hnil hcell hel =>
      exact ⟨ad, cap, rd, rfl, ⟨hcap, hnil, fun i hi j hj => by obtain ⟨q, h1, h2, _, h4⟩ := hcell i hi j hj; exact ⟨q, h1, h2, h4⟩, hel⟩⟩
  · obtain ⟨rfl, _⟩ := iv_v ha
    injection H with H; subst H
    exact ⟨none, 0, fun _ _ => undef, rfl, ⟨Nat.le_refl _, fun _ => rfl, fun i hi => absurd hi (by simp), fun i e hi => by simp at hi⟩⟩
  · injection H with H; subst H
    cases iv_c ha with
    | emp a cap => exact ⟨some a, cap, fun _ _ => undef, rfl, ⟨Nat.zero_le _, fun h => (by cases h), fun i hi => absurd hi (by simp), fun i e hi => by simp at hi⟩⟩
  · rename_i id
    cases hbx : hr id with
    | none => simp [hbx] at H
    | some bx =>
      cases bx with
      | cells => simp [hbx] at H
      | ice => simp [hbx] at H
      | map => simp [hbx] at H
      | row => simp [hbx] at H
      | arr ty t' xs fr =>
        simp only [hbx] at H
        obtain ⟨e, he⟩ := asTy_some H
        subst e; subst he
        obtain ⟨q', hq', hbr⟩ := rel.box _ _ (hsub _ _ hbx)
        cases iv_c ha with
        | sref _ q hq =>
          rw [hq] at hq'; injection hq' with hq'; subst hq'
          obtain ⟨hl, rd, hrow⟩ := box_row hbr
          exact ⟨_, _, rd, by rw [hl], hrow⟩
  · cases H

theorem vrel_sl {v : Value} {t : Ty} {xs : List (El t)} (hv : VRel x w v (.sl t xs)) : ∃ (a : Option Addr) (cap : Nat) (rd : Nat → Nat → Value), v = .slice a xs.length cap ∧ xs.length ≤ cap ∧ (a = none → cap = 0) ∧
    (∀ i, i < xs.length → ∀ j, j < width t → ∃ ad, a = some ad ∧ ad.spot = none ∧ x.ok ad.block (ad.off + (i * width t + j)) ∧ w.cell? ⟨ad.block, ad.off + (i * width t + j), none⟩ = some (rd i j)) ∧
    (∀ i e, xs[i]? = some e → ∀ (j : Nat) (c : IC), (enc t e)[j]? = some c → VRel x w (rd i j) c) := by
  cases hv with
  | sl _ _ a cap rd hcap hnil hcell hel => exact ⟨a, cap, rd, rfl, hcap, hnil, hcell, hel⟩

/-! ### what settles -/

theorem freezes_fz (hsub : ∀ i b, hr i = some b → h i = some b) {c : IC} {p : Nat × Option Box} (hp : p ∈ freezes hr c) : Fz h p := by
  unfold freezes at hp
  split at hp
  · rename_i i
    split at hp
    · rename_i ty t xs hb
      simp only [List.mem_singleton] at hp; subst hp
      exact ⟨ty, t, xs, false, hsub _ _ hb, rfl⟩
    · simp at hp
  · simp at hp

theorem mem_freezeAll {cs : List IC} {p : Nat × Option Box} : p ∈ freezeAll hr cs ↔ ∃ c, c ∈ cs ∧ p ∈ freezes hr c := by
  unfold freezeAll
  induction cs with
  | nil => simp
  | cons a l ih =>
    simp only [List.foldr_cons, List.mem_append, ih, List.mem_cons, or_and_right, exists_or, exists_eq_left]

theorem sref_sl {id ty : Nat} {t : Ty} {xs : List (El t)} (r : HRel M B O x h u w) (hb : h id = some (.arr ty t xs true)) {v : Value} (hv : VRel x w v (.sref id)) : VRel x w v (.sl t xs) := by
  obtain ⟨q, hq, hbr⟩ := r.box id _ hb
  cases hv with
  | sref _ q' hq' =>
    rw [hq] at hq'; injection hq' with hq'; subst hq'
    cases hbr with
    | none _ _ _ h1 h2 h3 =>
      rw [h1, h2, h3]
      exact .sl t [] none 0 (fun _ _ => undef) (Nat.le_refl _) (fun _ => rfl) (fun i hi => absurd hi (by simp)) (fun i e hi => by simp at hi)
    | arr _ _ _ _ k vs e h1 h2 h3 h4 h5 h6 h7 =>
      rw [h1, h3]
      refine .sl t xs _ q.cap (fun i j => vs.getD (i * width t + j) undef) h4 (fun hn => by simp at hn) (fun i hi j hj => ⟨⟨k, 0, none⟩, rfl, rfl, ?_, ?_⟩) (fun i e hi j c hc => h6 i e hi j c hc)
      · rw [Nat.zero_add]; exact h7 rfl i hi j hj
      · rw [Nat.zero_add, cell_of h2]
        have hlt : i * width t + j < vs.size := by
          rw [h5]
          have : (i + 1) * width t ≤ q.cap * width t := Nat.mul_le_mul_right _ (by omega)
          rw [Nat.add_mul] at this; omega
        simp [Array.getD, hlt]

/-- What the freezing of a list has brought. -/
structure Frozen (x : Xs) (w : World) (h : Nat → Option Box) (fz : List (Nat × Option Box)) (x' : Xs) : Prop where
  ext : Ext x w x' w
  g : x'.g = x.g
  tell : ∀ i ty t xs fr, h i = some (.arr ty t xs fr) → ((i, some (.arr ty t xs true)) ∈ fz ∨ fr = true) → ∀ v, VRel x w v (.sref i) → VRel x' w v (.sl t xs)

theorem Frozen.settle {fz : List (Nat × Option Box)} {x' : Xs} (hf : Frozen x w h fz x') (hsub : ∀ i b, hr i = some b → h i = some b) {c : IC} (hc : ∀ p, p ∈ freezes hr c → p ∈ fz) {v : Value}
    (hv : VRel x w v c) : VRel x' w v (VE.settle hr c) := by
  unfold VE.settle
  split
  · rename_i i
    cases hb : hr i with
    | none => exact .junk v
    | some b =>
      cases b with
      | cells => exact .junk v
      | ice => exact .junk v
      | map => exact .junk v
      | row => exact .junk v
      | arr ty t xs fr =>
        exact hf.tell i ty t xs fr (hsub _ _ hb) (by cases fr with | true => exact .inr rfl | false => exact .inl (hc _ (by simp [freezes, hb]))) v hv
  · exact hv.ext hf.ext

theorem HRel.frozen (rel : HRel M B O x h u w) (fz : List (Nat × Option Box)) (hf : ∀ p, p ∈ fz → Fz h p) : ∃ x', Frozen x w h fz x' ∧ HRel M B O x' (updMany h fz) u w := by
  obtain ⟨x', e, r', s, g⟩ := HRel.freezeAll fz x h rel hf
  refine ⟨x', ⟨e, g, fun i ty t xs fr hb hor v hv => ?_⟩, r'⟩
  rcases hor with h1 | rfl
  · exact s _ h1 ty t xs fr hb v hv
  · exact (sref_sl rel hb hv).ext e

theorem updMany_append {α : Type} : ∀ (l m : List (Nat × α)) (f : Nat → α), updMany f (l ++ m) = updMany (updMany f l) m
  | [], _, _ => rfl
  | (i, y) :: l, m, f => by rw [List.cons_append, updMany, updMany, updMany_append l m]

theorem updMany_other {α : Type} : ∀ (l : List (Nat × α)) (f : Nat → α) (i : Nat), (∀ p, p ∈ l → p.1 ≠ i) → updMany f l i = f i
  | [], _, _, _ => rfl
  | (j, y) :: l, f, i, hl => by
    rw [updMany, updMany_other l _ i (fun p hp => hl p (by simp [hp])), upd_other _ _ (Ne.symm (hl (j, y) (by simp)))]

/-! ### a slice of a slice -/

theorem boundK_some {v : Option IV} {top other : Nat} {f : Nat → R} (H : boundK v top other f = some r) :
    (v = none ∧ f other = some r) ∨ ∃ K n, v = some (.c (.v (.int K n))) ∧ 0 ≤ n ∧ n ≤ (top : Int) ∧ f n.toNat = some r := by
  unfold boundK at H
  split at H
  · exact .inl ⟨rfl, H⟩
  · rename_i K n
    obtain ⟨h0, H1⟩ := test_some H
    obtain ⟨h1, H2⟩ := test_some H1
    exact .inr ⟨K, n, rfl, of_decide_eq_true h0, of_decide_eq_true h1, H2⟩
  · cases H

/-- A bound's operand and what it comes to. -/
def BoundVal (v : Option IV) (A : Option Value) (other n : Nat) : Prop := (v = none ∧ A = none ∧ n = other) ∨ ∃ K m, A = some (.int K m) ∧ 0 ≤ m ∧ n = m.toNat

theorem bounds_run {hv lv : Option IV} {hA lA : Option Value} {isS : Bool} {len cap : Nat} {f : Nat → Nat → R} (hh : ∀ y, hv = some y → ∃ A, hA = some A ∧ IVRel x w A y) (hh0 : hv = none → hA = none)
    (hl : ∀ y, lv = some y → ∃ A, lA = some A ∧ IVRel x w A y) (hl0 : lv = none → lA = none) (hcap : len ≤ cap)
    (H : boundK hv len len (fun hN => boundK lv hN 0 fun lN => f hN lN) = some r) :
    ∃ hN lN, lN ≤ hN ∧ hN ≤ len ∧ f hN lN = some r ∧ (Instr.sliceBounds isS len cap lA hA none).run P w = .ok (lN, hN, cap) w := by
  have low : ∀ hN, hN ≤ len → boundK lv hN 0 (fun lN => f hN lN) = some r → ∃ lN, lN ≤ hN ∧ f hN lN = some r ∧
      ((lA = none ∧ lN = 0) ∨ ∃ K n, lA = some (.int K n) ∧ 0 ≤ n ∧ n ≤ (hN : Int) ∧ lN = n.toNat) := by
    intro hN _ H
    rcases boundK_some H with ⟨h1, h2⟩ | ⟨K, n, h1, h2, h3, h4⟩
    · exact ⟨0, Nat.zero_le _, h2, .inl ⟨hl0 h1, rfl⟩⟩
    · obtain ⟨A, hA', hr⟩ := hl _ h1
      obtain ⟨rfl, _⟩ := iv_v hr
      exact ⟨n.toNat, by omega, h4, .inr ⟨K, n, hA', h2, h3, rfl⟩⟩
  have fin : ∀ hN, hN ≤ len → boundK lv hN 0 (fun lN => f hN lN) = some r →
      ((hA = none ∧ hN = len) ∨ ∃ K n, hA = some (.int K n) ∧ 0 ≤ n ∧ n ≤ (len : Int) ∧ hN = n.toNat) →
      ∃ hN lN, lN ≤ hN ∧ hN ≤ len ∧ f hN lN = some r ∧ (Instr.sliceBounds isS len cap lA hA none).run P w = .ok (lN, hN, cap) w := by
    intro hN hle H hc
    obtain ⟨lN, h1, h2, h3⟩ := low hN hle H
    refine ⟨hN, lN, h1, hle, h2, ?_⟩
    have lo1 : ∀ (K : IntKind) (n : Int) (c : BoundsCode), 0 ≤ n → n ≤ (hN : Int) → (Instr.sliceBound (.int K n) hN c).run P w = .ok n.toNat w := by
      intro K n c p1 p2
      have : 0 ≤ n ∧ n ≤ (hN : Int) := ⟨p1, p2⟩
      simp [Instr.sliceBound, asIntOf, this]
    have hi1 : ∀ (K : IntKind) (n : Int) (c : BoundsCode), 0 ≤ n → n ≤ (len : Int) → (Instr.sliceBound (.int K n) cap c).run P w = .ok n.toNat w := by
      intro K n c p1 p2
      have : 0 ≤ n ∧ n ≤ (cap : Int) := ⟨p1, by omega⟩
      simp [Instr.sliceBound, asIntOf, this]
    rcases hc with ⟨e1, e2⟩ | ⟨K, n, e1, p1, p2, e2⟩ <;> rcases h3 with ⟨e3, e4⟩ | ⟨K', n', e3, p3, p4, e4⟩
    · rw [e1, e3, e2, e4]; rfl
    · rw [e1, e3]
      simp only [Instr.sliceBounds, Sem.run_bind, Sem.run_pure, Result.andThen_ok]
      rw [← e2, lo1 _ _ _ p3 p4, e4]; rfl
    · rw [e1, e3]
      simp only [Instr.sliceBounds, Sem.run_bind, Sem.run_pure, Result.andThen_ok]
      rw [hi1 _ _ _ p1 p2, e2, e4]; rfl
    · rw [e1, e3]
      simp only [Instr.sliceBounds, Sem.run_bind, Sem.run_pure, Result.andThen_ok]
      rw [hi1 _ _ _ p1 p2, Result.andThen_ok, ← e2, lo1 _ _ _ p3 p4, e4]; rfl
  rcases boundK_some H with ⟨h1, h2⟩ | ⟨K, n, h1, h2, h3, h4⟩
  · exact fin len (Nat.le_refl _) h2 (.inl ⟨hh0 h1, rfl⟩)
  · obtain ⟨A, hA', hr⟩ := hh _ h1
    obtain ⟨rfl, _⟩ := iv_v hr
    exact fin n.toNat (by omega) h4 (.inr ⟨K, n, hA', h2, h3, rfl⟩)

theorem sliceK_sound (hty : TyOK P cfg.ty) (rel : HRel M B O x h u w) (hsub : ∀ i b, hr i = some b → h i = some b) {t : Nat} {lo hi : Option Operand} {ρ : Operand → Value} {a : IV} {A : Value} (ha : IVRel x w A a)
    {rs : List IV} (hl : rs.length = (lo.toList ++ hi.toList).length) (hrs : ∀ j y, rs[j]? = some y → IVRel x w (((lo.toList ++ hi.toList).map ρ).getD j undef) y)
    (H : sliceK cfg hr k t lo.isSome hi.isSome a rs = some r) : ∃ out, k out = some r ∧ Step P M B O x h u w out (Instr.sliceAt t A (lo.map ρ) (hi.map ρ) none) := by
  unfold sliceK at H
  obtain ⟨bd, hbd, H1⟩ := bindK_some H
  clear H
  have hb : (∀ y, bd.2 = some y → ∃ A, hi.map ρ = some A ∧ IVRel x w A y) ∧ (bd.2 = none → hi.map ρ = none) ∧ (∀ y, bd.1 = some y → ∃ A, lo.map ρ = some A ∧ IVRel x w A y) ∧ (bd.1 = none → lo.map ρ = none) := by
    unfold lowOf at hbd
    cases lo with
    | none =>
      cases hi with
      | none =>
        match rs, hl with
        | [], _ => simp at hbd; subst hbd; simp
      | some hi =>
        match rs, hl with
        | [y], _ =>
          simp at hbd; subst hbd
          have := hrs 0 y rfl
          simpa using this
    | some lo =>
      cases hi with
      | none =>
        match rs, hl with
        | [y], _ =>
          simp at hbd; subst hbd
          have := hrs 0 y rfl
          simpa using this
      | some hi =>
        match rs, hl with
        | [y, z], _ =>
          simp at hbd; subst hbd
          have h0 := hrs 0 y rfl
          have h1 := hrs 1 z rfl
          simp at h0 h1
          simp [h0, h1]
  obtain ⟨b1, b2, b3, b4⟩ := hb
  split at H1
  · rename_i hd
    split at H1
    case h_2 => cases H1
    rename_i s
    obtain ⟨d, hu, h2⟩ := hty.und hd
    have hds := h2.str; subst hds
    obtain ⟨rfl, _⟩ := iv_v ha
    obtain ⟨hN, lN, e1, e2, e3, e4⟩ := bounds_run (P := P) (isS := false) (cap := s.size) (f := fun hN lN => k ⟨vs (s.extract lN hN), [], []⟩) b1 b2 b3 b4 (Nat.le_refl _) H1
    refine ⟨_, e3, Step.pure (v := .string (s.extract lN hN)) rel ?_ (vrel_str _)⟩
    simp only [Instr.sliceAt, Sem.run_bind, run_underlying hu, Result.andThen_ok, Instr.slice, Option.isSome_none, Bool.false_eq_true, if_false, e4, Sem.run_pure]
  · rename_i e hd
    obtain ⟨i, hi', H2⟩ := bindK_some H1
    obtain ⟨τ, hτ, H3⟩ := bindK_some H2
    obtain ⟨hsz, H4⟩ := need_some H3
    obtain ⟨xs, hxs, H5⟩ := bindK_some H4
    clear H1 H2 H3 H4
    obtain ⟨d, hu, h2⟩ := hty.und hd
    have hds := h2.sl; subst hds
    have hT := hty _ _ hi'
    obtain ⟨ad, cap, rd, rfl, hrow⟩ := elems_sound rel hsub ha hxs
    obtain ⟨hN, lN, e1, e2, e3, e4⟩ := bounds_run (P := P) (isS := true) (cap := cap) (f := fun hN lN => k ⟨.c (.sl τ ((xs.take hN).drop lN)), freezeAll hr (cellsOf a), []⟩) b1 b2 b3 b4 hrow.cap H5
    obtain ⟨x', hfz, rel'⟩ := rel.frozen (freezeAll hr (cellsOf a)) (fun p hp => by obtain ⟨c, _, hc⟩ := mem_freezeAll.1 hp; exact freezes_fz hsub hc)
    refine ⟨_, e3, .slice (if cap = lN then ad else ad.map (·.add (lN * i.size))) (hN - lN) (cap - lN), w, x', ?_, hfz.ext, Fr.refl _ _ _, rel', ?_⟩
    · simp only [Instr.sliceAt, Sem.run_bind, run_underlying hu, Result.andThen_ok, Instr.slice, e4, hT.runSize, Sem.run_pure]
    · -- the elements that are told lie where they lay
      have hxs' : ∃ rd', SlRow x' w τ xs ad cap rd' ∧ ∀ i, i < xs.length → ∀ j, j < width τ → ∃ q, ad = some q ∧ x'.ok q.block (q.off + (i * width τ + j)) := by
        have hv : VRel x' w (.slice ad xs.length cap) (.sl τ xs) := by
          unfold elems at hxs
          split at hxs
          · obtain ⟨e, he⟩ := asTy_some hxs
            subst e; subst he
            exact (iv_c ha).ext hfz.ext
          · obtain ⟨e5, _⟩ := iv_v ha
            injection hxs with hxs; subst hxs
            rw [e5]
            exact .sl τ [] none 0 (fun _ _ => undef) (Nat.le_refl _) (fun _ => rfl) (fun i hi => absurd hi (by simp)) (fun i e hi => by simp at hi)
          · injection hxs with hxs; subst hxs
            have hz : ∀ v, VRel x w v .emp → VRel x' w v (.sl τ []) := by
              intro v hv
              cases hv with
              | emp a cap => exact .sl τ [] (some a) cap (fun _ _ => undef) (Nat.zero_le _) (fun h => by cases h) (fun i hi => absurd hi (by simp)) (fun i e hi => by simp at hi)
            exact hz _ (iv_c ha)
          · rename_i id
            cases hbx : hr id with
            | none => simp [hbx] at hxs
            | some bx =>
              cases bx with
              | cells => simp [hbx] at hxs
              | ice => simp [hbx] at hxs
              | map => simp [hbx] at hxs
              | row => simp [hbx] at hxs
              | arr ty t' ys fr =>
                simp only [hbx] at hxs
                obtain ⟨e, he⟩ := asTy_some hxs
                subst e; subst he
                exact hfz.tell id ty t' xs fr (hsub _ _ hbx) (by cases fr with | true => exact .inr rfl | false => exact .inl (mem_freezeAll.2 ⟨.sref id, by simp [cellsOf], by simp [freezes, hbx]⟩)) _ (iv_c ha)
          · cases hxs
        obtain ⟨a2, cap2, rd', e9, hcap, hnil, hcell, hel⟩ := vrel_sl hv
        injection e9 with e10 _ e11
        subst e10 e11
        exact ⟨rd', ⟨hcap, hnil, fun i hi j hj => by obtain ⟨q, h1, h2, _, h4⟩ := hcell i hi j hj; exact ⟨q, h1, h2, h4⟩, hel⟩, fun i hi j hj => by obtain ⟨q, h1, _, h3, _⟩ := hcell i hi j hj; exact ⟨q, h1, h3⟩⟩
      obtain ⟨rd', hrow', hok⟩ := hxs'
      have hlen : ((xs.take hN).drop lN).length = hN - lN := by simp; omega
      have hgo : VRel x' w (.slice (if cap = lN then ad else ad.map (·.add (lN * i.size))) ((xs.take hN).drop lN).length (cap - lN)) (.sl τ ((xs.take hN).drop lN)) := by
        refine .sl τ _ _ _ (fun i j => rd' (lN + i) j) (by rw [hlen]; have := hrow'.cap; omega) ?_ ?_ ?_
        · intro hn
          split at hn
          · omega
          · cases ad with
            | none => have := hrow'.nil rfl; omega
            | some q => simp at hn
        · intro m hm j hj
          rw [hlen] at hm
          obtain ⟨q, h1, h2, h3⟩ := hrow'.cell (lN + m) (by omega) j hj
          obtain ⟨q', h1', h4⟩ := hok (lN + m) (by omega) j hj
          rw [h1] at h1'; injection h1' with h1'; subst h1'
          have hne : ¬ cap = lN := by have := hrow'.cap; omega
          rw [if_neg hne, h1]
          obtain ⟨b, o, sp⟩ := q
          simp only at h2; subst h2
          refine ⟨⟨b, o + lN * i.size, none⟩, by simp [add_none], rfl, ?_, ?_⟩
          · show x'.ok b (o + lN * i.size + (m * width τ + j))
            rw [hsz]
            have e5 : o + lN * width τ + (m * width τ + j) = o + ((lN + m) * width τ + j) := by rw [Nat.add_mul]; omega
            rw [e5]; exact h4
          · show w.cell? ⟨b, o + lN * i.size + (m * width τ + j), none⟩ = _
            rw [hsz]
            have e5 : o + lN * width τ + (m * width τ + j) = o + ((lN + m) * width τ + j) := by rw [Nat.add_mul]; omega
            rw [e5]; exact h3
        · intro m e hm j c hc
          rw [List.getElem?_drop] at hm
          have hlt : lN + m < hN := by
            rcases Nat.lt_or_ge (lN + m) hN with h' | h'
            · exact h'
            · rw [List.getElem?_eq_none (by simp; omega)] at hm; cases hm
          rw [List.getElem?_take_of_lt hlt] at hm
          exact hrow'.el _ e hm j c hc
      rw [hlen] at hgo
      exact .c _ _ hgo
  · cases H1

end
end Go.Proofs.Ytdoilggfajngiaa.VE
