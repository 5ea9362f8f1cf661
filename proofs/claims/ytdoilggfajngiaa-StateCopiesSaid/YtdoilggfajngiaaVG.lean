/-
  Each operation of the ideal machine is the model's, continued: indexes, lengths, operators.
-/
import Derived.Test.YtdoilggfajngiaaVF
namespace Go.Proofs.Ytdoilggfajngiaa.VE
open Go Go.RowKit

section
variable {P : Program} {cfg : Cfg} {M : Nat → Prop} {B key : Nat} {O : Nat → Nat → Prop} {x : Xs} {h hr : Nat → Option Box} {u : Nat → Bool} {w : World} {k : Out → R} {r : IV × List (Nat × Box)}

theorem vrel_el {t : Ty} {xs : List (El t)} {a : Option Addr} {rd : Nat → Nat → Value}
    (hcell : ∀ i, i < xs.length → ∀ j, j < width t → ∃ ad, a = some ad ∧ ad.spot = none ∧ x.ok ad.block (ad.off + (i * width t + j)) ∧ w.cell? ⟨ad.block, ad.off + (i * width t + j), none⟩ = some (rd i j))
    (hel : ∀ i e, xs[i]? = some e → ∀ j c, (enc t e)[j]? = some c → VRel x w (rd i j) c) (hok : ∀ b o, x.ok b o → x.okp b o) {i : Nat} (hi : i < xs.length) :
    ∃ ad, a = some ad ∧ ad.spot = none ∧ VRel x w (.pointer (some (ad.add (i * width t)))) (.snap (enc t (rdEl t xs i)) 0) := by
  obtain ⟨ad, h1, h2, _, _⟩ := hcell i hi 0 (width_pos t)
  obtain ⟨b, o, sp⟩ := ad
  simp only at h2; subst h2
  refine ⟨_, h1, rfl, ?_⟩
  rw [add_none]
  refine .snap (enc t (rdEl t xs i)) 0 b (o + i * width t) (rd i) (enc_free t _) (fun j hj => ?_) (fun j c hc => hel i _ (rdEl_get hi) j c hc)
  rw [enc_length] at hj
  obtain ⟨ad', h1', _, h3, h4⟩ := hcell i hi j hj
  rw [h1] at h1'; injection h1' with h1'; subst h1'
  rw [Nat.add_assoc]
  exact ⟨hok _ _ h3, h4⟩

theorem indexAddrK_sound (hty : TyOK P cfg.ty) (rel : HRel M B O x h u w) (hsub : ∀ i b, hr i = some b → h i = some b) {t : Nat} {a ix : IV} {A I : Value} (ha : IVRel x w A a) (hix : IVRel x w I ix)
    (H : indexAddrK cfg hr k t a ix = some r) : ∃ out, k out = some r ∧ Step P M B O x h u w out (Instr.indexAt t A I) := by
  unfold indexAddrK at H
  split at H
  · rename_i e τ xs K n hd
    obtain ⟨i, hi, H1⟩ := bindK_some H
    obtain ⟨hsz, H2⟩ := need_some H1
    obtain ⟨h0, H3⟩ := test_some H2
    obtain ⟨h1, H4⟩ := test_some H3
    clear H H1 H2 H3
    have h0 := of_decide_eq_true h0
    have h1 := of_decide_eq_true h1
    obtain ⟨d, hu, h2⟩ := hty.und hd
    have hds := h2.sl; subst hds
    obtain ⟨rfl, _⟩ := iv_v hix
    cases iv_c ha with
    | sl _ _ a cap rd hcap hnil hcell hel =>
      have hn : n.toNat < xs.length := by omega
      obtain ⟨ad, rfl, hsp, hv⟩ := vrel_el hcell hel rel.okp hn
      refine ⟨_, H4, Step.pure (v := .pointer (some (ad.add (n.toNat * width τ)))) rel ?_ (.c _ _ hv)⟩
      have hT := hty _ _ hi
      have hlt : 0 ≤ n ∧ n < (xs.length : Int) := ⟨h0, h1⟩
      simp [Instr.indexAt, asIntOf, run_underlying hu, hlt, hT.runSize, hsz]
  · rename_i e id K n hd
    split at H
    · rename_i ty τ xs fr hbx
      obtain ⟨i, hi, H1⟩ := bindK_some H
      obtain ⟨hsz, H2⟩ := need_some H1
      obtain ⟨h0, H3⟩ := test_some H2
      obtain ⟨h1, H4⟩ := test_some H3
      clear H H1 H2 H3
      have h0 := of_decide_eq_true h0
      have h1 := of_decide_eq_true h1
      obtain ⟨d, hu, h2⟩ := hty.und hd
      have hds := h2.sl; subst hds
      obtain ⟨rfl, _⟩ := iv_v hix
      have hn : n.toNat < xs.length := by omega
      cases iv_c ha with
      | sref _ q hq =>
        obtain ⟨q', hq', hbr⟩ := rel.box _ _ (hsub _ _ hbx)
        rw [hq] at hq'; injection hq' with hq'; subst hq'
        cases hbr with
        | none => simp at hn
        | arr _ _ _ _ b vs e' hqb hw hl hc hs hrel hfr =>
          refine ⟨_, H4, Step.pure (v := .pointer (some ⟨b, n.toNat * width τ + 0, none⟩)) rel ?_ (.c _ _ (.eref id (width τ) n.toNat 0 q b hq hqb (by omega)))⟩
          have hT := hty _ _ hi
          have hlt : 0 ≤ n ∧ n < (xs.length : Int) := ⟨h0, h1⟩
          rw [hqb, hl]
          simp [Instr.indexAt, asIntOf, run_underlying hu, hlt, hT.runSize, hsz, add_none]
    · cases H
  · rename_i m e K n hd
    obtain ⟨i, hi, H1⟩ := bindK_some H
    obtain ⟨hm, H2⟩ := need_some H1
    clear H H1
    obtain ⟨d, hu, h2⟩ := hty.und hd
    have hds := h2.arr; subst hds
    obtain ⟨rfl, _⟩ := iv_v hix
    have hT := hty _ _ hi
    have hm' : ¬ (m ≤ 1) := by omega
    split at H2
    · rename_i p hp
      obtain ⟨hsz, H2⟩ := need_some H2
      obtain ⟨h0, H3⟩ := test_some H2
      obtain ⟨h1, H4⟩ := test_some H3
      obtain ⟨h3, H5⟩ := test_some H4
      clear H2 H3 H4
      have h0 := of_decide_eq_true h0
      have h1 := of_decide_eq_true h1
      have h3 := of_decide_eq_true h3
      unfold arrBox at hp
      split at hp
      · rename_i id off
        cases ho : Nat.beq off 0
        · rw [ho] at hp; cases hp
        · rw [ho] at hp
          have ho := Nat.eq_of_beq_eq_true ho
          subst ho
          rw [cond_true] at hp
          split at hp
          · rename_i ty τ xs fr hbx
            cases hp
            have h3 : n < (xs.length : Int) := h3
            have hsz : i.size = width τ := hsz
            cases iv_c ha with
            | ref _ _ q b hq hqb =>
              obtain ⟨q', hq', hbr⟩ := rel.box _ _ (hsub _ _ hbx)
              rw [hq] at hq'; injection hq' with hq'; subst hq'
              cases hbr with
              | none _ _ _ hb => rw [hqb] at hb; cases hb
              | arr _ _ _ _ b' vs e' hqb' hw hl hc hs hrel hfr =>
                refine ⟨_, H5, Step.pure (v := .pointer (some ⟨b, n.toNat * width τ + 0, none⟩)) rel ?_ (.c _ _ (.eref id (width τ) n.toNat 0 q b hq hqb (by omega)))⟩
                have hlt : 0 ≤ n ∧ n < (m : Int) := ⟨h0, h1⟩
                simp [Instr.indexAt, asIntOf, Instr.sureAddr, run_underlying hu, hlt, hT.runSize, hsz, add_none]
          · cases hp
      · cases hp
    · obtain ⟨h0, H3⟩ := test_some H2
      obtain ⟨h1, H4⟩ := test_some H3
      obtain ⟨z, hz, H5⟩ := bindK_some H4
      clear H2 H3 H4
      have h0 := of_decide_eq_true h0
      have h1 := of_decide_eq_true h1
      obtain ⟨ad, rfl, hsp, hv⟩ := moved_sound ha hz
      refine ⟨_, H5, Step.pure (v := .pointer (some (ad.add (n.toNat * i.size)))) rel ?_ hv⟩
      have hlt : 0 ≤ n ∧ n < (m : Int) := ⟨h0, h1⟩
      simp [Instr.indexAt, asIntOf, Instr.sureAddr, run_underlying hu, hlt, hT.runSize]
  · cases H

theorem byteAt_some {s : ByteArray} {n : Int} (h0 : 0 ≤ n) (h1 : n < (s.size : Int)) : ∃ b, s[n.toNat]? = some b ∧ ((b.toNat : Nat) : Int) = byteAt s n := by
  have hlt : n.toNat < s.size := by omega
  refine ⟨s[n.toNat], by simp [hlt], ?_⟩
  have hl : n.toNat < s.data.toList.length := by simpa using hlt
  simp only [byteAt, List.getD, List.getElem?_eq_getElem hl, Option.getD_some]
  rfl

theorem part_sound {t off : Nat} {i : TI} (hT : TOK P t i) (h1 : i.d.agg = false → i.size = 1) {us : Array Value} {cs c : List IC} (hs : us.size = cs.length) (hrel : ∀ j y, cs[j]? = some y → VRel x w (us.getD j undef) y)
    (hc : cut cs off i.size = some c) : ∃ v, (part t us off).run P w = .ok v w ∧ IVRel x w v (mkIV i.d.agg c) := by
  obtain ⟨hl, hg⟩ := cut_get hc
  have hle := (cut_some hc).1
  let l := (us.toList.drop off).take i.size
  have hll : l.length = c.length := by simp [l, hl]; omega
  have hlrel : ∀ j y, c[j]? = some y → VRel x w (l.getD j undef) y := by
    intro j y hy
    have hj : j < i.size := by
      rcases Nat.lt_or_ge j i.size with h' | h'
      · exact h'
      · rw [List.getElem?_eq_none (by omega)] at hy; cases hy
    rw [hg j hj] at hy
    have := hrel _ _ hy
    simpa [l, List.getD, List.getElem?_take_of_lt hj] using this
  refine ⟨if i.d.agg then .agg l.toArray else l.getD 0 undef, ?_, ivOfCells hll hlrel _ fun ha => by rw [hl]; exact h1 ha⟩
  rw [hT.runPart us off w (by omega) h1]
  cases hagg : i.d.agg with
  | true =>
    have : us.extract off (off + i.size) = l.toArray := by
      apply Array.ext'
      simp [l]
    simp [this]
  | false =>
    have hi1 := h1 hagg
    have : us.getD off undef = l.getD 0 undef := by
      have h0 : l[0]? = us[off]? := by
        simp only [l]
        rw [List.getElem?_take_of_lt (by omega), List.getElem?_drop]
        simp
      simp [List.getD, h0]
    simp [this]

theorem allInts_get : ∀ {cs : List IC} {K : IntKind} {l : List Int}, allInts cs = some (K, l) → cs = l.map fun a => .v (.int K a)
  | [], _, _, h => by simp [allInts] at h
  | [c], K, l, h => by
    unfold allInts at h
    split at h
    · rename_i K' a e
      simp only [Option.some.injEq, Prod.mk.injEq] at h
      obtain ⟨rfl, rfl⟩ := h
      simpa using e
    · rename_i K' a r _ e
      have : r = [] := by simpa using (List.cons.inj e).2.symm
      subst this
      simp [allInts] at h
    · cases h
  | c :: d :: cs, K, l, h => by
    unfold allInts at h
    split at h
    · rename_i K' a e; simp at e
    · rename_i K' a r _ e
      obtain ⟨e1, e2⟩ := List.cons.inj e
      subst e2
      split at h
      · rename_i K2 l2 h2
        split at h
        · rename_i hk
          subst hk
          simp only [Option.some.injEq, Prod.mk.injEq] at h
          obtain ⟨rfl, rfl⟩ := h
          have := allInts_get h2
          rw [e1, this]; rfl
        · cases h
      · cases h
    · cases h

theorem intsOf_cut {agg : Bool} {size m : Nat} {cs : List IC} {p : IntKind × List Int} (h : intsOf agg size m cs = some p) {n : Nat} (hn : n < m) :
    agg = false ∧ size = 1 ∧ cut cs (n * size) size = some [.v (.int p.1 (rdEl (.int p.1) p.2 n))] := by
  unfold intsOf at h
  cases hc : (!agg && (Nat.beq size 1 && Nat.beq cs.length m)) with
  | false => rw [hc] at h; cases h
  | true =>
    rw [hc] at h
    simp only [Bool.and_eq_true, Bool.not_eq_true'] at hc
    obtain ⟨h1, h2, h3⟩ := hc
    have h2 := Nat.eq_of_beq_eq_true h2
    have h3 := Nat.eq_of_beq_eq_true h3
    subst h2
    obtain ⟨K, l⟩ := p
    have hcs := allInts_get (cs := cs) (K := K) (l := l) h
    have hl : l.length = m := by rw [← h3, hcs, List.length_map]
    refine ⟨h1, rfl, ?_⟩
    unfold cut
    rw [if_pos (by omega), hcs, Nat.mul_one, List.drop_eq_getElem_cons (by rw [List.length_map]; omega), List.take_succ_cons, List.take_zero, List.getElem_map]
    have : rdEl (.int K) l n = l[n] := by simp [rdEl, List.getD, show n < l.length by omega]
    rw [this]

theorem indexK_sound (hty : TyOK P cfg.ty) (rel : HRel M B O x h u w) {t : Nat} {a ix : IV} {A I : Value} (ha : IVRel x w A a) (hix : IVRel x w I ix)
    (H : indexK cfg k t a ix = some r) : ∃ out, k out = some r ∧ Step P M B O x h u w out (Instr.index t A I) := by
  unfold indexK at H
  split at H
  · rename_i s K n hd
    obtain ⟨h0, H3⟩ := test_some H
    obtain ⟨h1, H4⟩ := test_some H3
    clear H H3
    have h0 := of_decide_eq_true h0
    have h1 := of_decide_eq_true h1
    obtain ⟨d, hu, h2⟩ := hty.und hd
    have hds := h2.str; subst hds
    obtain ⟨rfl, _⟩ := iv_v hix
    obtain ⟨rfl, _⟩ := iv_v ha
    obtain ⟨b, hb, he⟩ := byteAt_some h0 h1
    refine ⟨_, H4, Step.pure (v := .int .u8 (byteAt s n)) rel ?_ (vrel_int _ _)⟩
    simp [Instr.index, asIntOf, run_underlying hu, h0, hb, he]
  · rename_i m e cs K n hd
    obtain ⟨i, hi, H1⟩ := bindK_some H
    obtain ⟨hagg, H2⟩ := need_some H1
    obtain ⟨h0, H3⟩ := test_some H2
    obtain ⟨h1, H4⟩ := test_some H3
    have h0 := of_decide_eq_true h0
    have h1 := of_decide_eq_true h1
    have HH : ∃ c, cut cs (n.toNat * i.size) i.size = some c ∧ k ⟨mkIV i.d.agg c, [], []⟩ = some r := by
      split at H4
      · rename_i p hp
        obtain ⟨e1, e2, e3⟩ := intsOf_cut hp (show n.toNat < m by omega)
        refine ⟨_, e3, ?_⟩
        rw [e1]; exact H4
      · exact bindK_some H4
    obtain ⟨c, hc, H5⟩ := HH
    clear H H1 H2 H3 H4
    obtain ⟨d, hu, h2⟩ := hty.und hd
    have hds := h2.arr; subst hds
    obtain ⟨rfl, _⟩ := iv_v hix
    have hT := hty _ _ hi
    cases ha with
    | agg us _ hs hrel =>
      obtain ⟨v, hv, hr⟩ := part_sound (P := P) hT hagg hs hrel hc
      refine ⟨_, H5, Step.pure (v := v) rel ?_ hr⟩
      have hlt : 0 ≤ n ∧ n < (m : Int) := ⟨h0, h1⟩
      simp [Instr.index, asIntOf, run_underlying hu, hlt, hT.runSize, hv]
  · cases H

theorem lenK_sound (hty : TyOK P cfg.ty) (rel : HRel M B O x h u w) (hsub : ∀ i b, hr i = some b → h i = some b) {t ty : Nat} {ts : Array Nat} (hts : ts[0]? = some t) {a : IV} {A : Value} (ha : IVRel x w A a)
    (H : lenK cfg hr k t a = some r) : ∃ out, k out = some r ∧ Step P M B O x h u w out (Builtin.len_ ts ty #[A]) := by
  have h0 : (#[A] : Array Value)[0]? = some A := rfl
  unfold lenK at H
  split at H
  · rename_i s hd
    obtain ⟨d, hu, h2⟩ := hty.und hd
    have hds := h2.str; subst hds
    obtain ⟨rfl, _⟩ := iv_v ha
    exact ⟨_, H, Step.pure rel (by simp [Builtin.len_, hts, run_underlying hu]; rfl) (vrel_int _ _)⟩
  · rename_i hd
    obtain ⟨d, hu, h2⟩ := hty.und hd
    have hds := h2.sl; subst hds
    cases iv_c ha with
    | sl =>
      exact ⟨_, H, Step.pure rel (by simp [Builtin.len_, hts, run_underlying hu]; rfl) (vrel_int _ _)⟩
  · rename_i e hd
    obtain ⟨d, hu, h2⟩ := hty.und hd
    have hds := h2.sl; subst hds
    obtain ⟨rfl, _⟩ := iv_v ha
    exact ⟨_, H, Step.pure rel (by simp [Builtin.len_, hts, run_underlying hu]; rfl) (vrel_int _ _)⟩
  · rename_i e hd
    obtain ⟨d, hu, h2⟩ := hty.und hd
    have hds := h2.sl; subst hds
    cases iv_c ha with
    | emp a cap =>
      exact ⟨_, H, Step.pure rel (by simp [Builtin.len_, hts, run_underlying hu]; rfl) (vrel_int _ _)⟩
  · rename_i e id hd
    split at H
    · rename_i ty' τ xs fr hbx
      obtain ⟨d, hu, h2⟩ := hty.und hd
      have hds := h2.sl; subst hds
      cases iv_c ha with
      | sref _ q hq =>
        obtain ⟨q', hq', hbr⟩ := rel.box _ _ (hsub _ _ hbx)
        rw [hq] at hq'; injection hq' with hq'; subst hq'
        have hl : q.len = xs.length := by
          cases hbr with
          | none _ _ _ _ _ h3 => exact h3
          | arr _ _ _ _ b vs e' hqb hw hl hc hs hrel hfr => exact hl
        exact ⟨_, H, Step.pure (v := .int .i64 (xs.length : Int)) rel (by simp [Builtin.len_, hts, run_underlying hu, hl]; rfl) (vrel_int _ _)⟩
    · cases H
  · rename_i e id wd lo n c hd
    obtain ⟨d, hu, h2⟩ := hty.und hd
    have hds := h2.sl; subst hds
    cases iv_c ha with
    | view _ _ _ _ _ q o hg hle ho hc =>
      exact ⟨_, H, Step.pure rel (by simp [Builtin.len_, hts, run_underlying hu]; rfl) (vrel_int _ _)⟩
  · rename_i kt e id hd
    split at H
    · rename_i κ τ es clock hbx
      obtain ⟨d, hu, h2⟩ := hty.und hd
      have hds := h2.map; subst hds
      cases iv_c ha with
      | mref _ q b hq hb =>
        obtain ⟨q', hq', hbr⟩ := rel.box _ _ (hsub _ _ hbx)
        rw [hq] at hq'; injection hq' with hq'; subst hq'
        cases hbr with
        | map _ _ _ _ b' hb' hw =>
          rw [hb] at hb'; injection hb' with hb'; subst hb'
          exact ⟨_, H, Step.pure (v := .int .i64 (es.length : Int)) rel (by simp [Builtin.len_, hts, run_underlying hu, run_getObj_of hw]; rfl) (vrel_int _ _)⟩
    · cases H
  · cases H

theorem minmax2_sound {mx : Bool} {a b c : IV} {A Bv : Value} (ha : IVRel x w A a) (hb : IVRel x w Bv b) (H : minmax2 mx a b = some c) :
    ∃ C, (if mx then Builtin.max2 A Bv else Builtin.min2 A Bv) = Sem.pure C ∧ IVRel x w C c := by
  unfold minmax2 at H
  split at H
  · rename_i K p K' q
    obtain ⟨rfl, _⟩ := iv_v ha
    obtain ⟨rfl, _⟩ := iv_v hb
    injection H with H; subst H
    cases mx
    · exact ⟨_, rfl, vrel_int _ _⟩
    · exact ⟨_, rfl, vrel_int _ _⟩
  · cases H

theorem minmax_sound {mx : Bool} : ∀ (l : List IV) (us : List Value) (a c : IV) (A : Value), IVRel x w A a → us.length = l.length → (∀ j y, l[j]? = some y → IVRel x w (us.getD j undef) y) →
    minmax mx a l = some c → ∃ C, (us.foldlM (if mx then Builtin.max2 else Builtin.min2) A).run P w = .ok C w ∧ IVRel x w C c
  | [], us, a, c, A, ha, hl, _, H => by
    simp only [minmax] at H; injection H with H; subst H
    match us, hl with
    | [], _ => exact ⟨A, rfl, ha⟩
  | b :: l, us, a, c, A, ha, hl, hrel, H => by
    match us, hl with
    | v :: us, hl =>
      simp only [minmax] at H
      cases hc : minmax2 mx a b with
      | none => simp [hc] at H
      | some z =>
        simp only [hc] at H
        obtain ⟨C, hC, hCr⟩ := minmax2_sound ha (hrel 0 b rfl) hc
        obtain ⟨D, hD, hDr⟩ := minmax_sound l us z c C hCr (by simpa using hl) (fun j y hy => by simpa using hrel (j + 1) y (by simpa using hy)) H
        refine ⟨D, ?_, hDr⟩
        rw [List.foldlM_cons, Sem.run_bind]
        have : (if mx then Builtin.max2 else Builtin.min2) A v = Sem.pure C := by
          rw [← hC]; cases mx <;> rfl
        rw [this, Sem.run_pure', Result.andThen_ok]
        exact hD

theorem intBin_sound {op : BinOp} {K : IntKind} {a b : Int} {t : TypeId} {k' : IV → R} (H : intBin op K a b k' = some r) :
    ∃ v y, k' y = some r ∧ (∀ w, (binOp op t (.int K a) (.int K b)).run P w = .ok v w) ∧ ∀ x w, IVRel x w v y := by
  cases op <;> simp only [intBin] at H
  case quo =>
    obtain ⟨h0, H⟩ := test_some H
    have h0 : ¬ b = 0 := by simpa using h0
    exact ⟨_, _, H, fun w => by simp [binOp, Op.intDiv, h0], fun x w => vrel_int _ _⟩
  case rem =>
    obtain ⟨h0, H⟩ := test_some H
    have h0 : ¬ b = 0 := by simpa using h0
    exact ⟨_, _, H, fun w => by simp [binOp, Op.intDiv, h0], fun x w => vrel_int _ _⟩
  case shl => cases H
  case shr => cases H
  case and => exact ⟨_, _, H, fun w => by simp [binOp, Op.intBits], fun x w => vrel_int _ _⟩
  case or => exact ⟨_, _, H, fun w => by simp [binOp, Op.intBits], fun x w => vrel_int _ _⟩
  case xor => exact ⟨_, _, H, fun w => by simp [binOp, Op.intBits], fun x w => vrel_int _ _⟩
  case andNot => exact ⟨_, _, H, fun w => by simp [binOp, Op.intBits], fun x w => vrel_int _ _⟩
  case add => exact ⟨_, _, H, fun w => by simp [binOp, Op.intArith], fun x w => vrel_int _ _⟩
  case sub => exact ⟨_, _, H, fun w => by simp [binOp, Op.intArith], fun x w => vrel_int _ _⟩
  case mul => exact ⟨_, _, H, fun w => by simp [binOp, Op.intArith], fun x w => vrel_int _ _⟩
  all_goals exact ⟨_, _, H, fun w => by simp [binOp, Op.intCmp], fun x w => vrel_bool _⟩

theorem strBin_sound {op : BinOp} {a b : ByteArray} {t : TypeId} {k' : IV → R} (H : strBin op a b k' = some r) :
    ∃ v y, k' y = some r ∧ (∀ w, (binOp op t (.string a) (.string b)).run P w = .ok v w) ∧ ∀ x w, IVRel x w v y := by
  cases op <;> simp only [strBin] at H
  case add =>
    obtain ⟨h0, H⟩ := test_some H
    have h0 := of_decide_eq_true h0
    have h1 : ¬ (((a.size + b.size : Nat) : Int) > IntKind.i64.max) := by
      have : IntKind.i64.max = 9223372036854775807 := rfl
      rw [this]; omega
    refine ⟨_, _, H, fun w => ?_, fun x w => vrel_str _⟩
    show (Op.stringOp .add a b).run P w = _
    unfold Op.stringOp
    simp only [if_neg h1]
    rfl
  case quo => cases H
  case rem => cases H
  case shl => cases H
  case shr => cases H
  case and => cases H
  case or => cases H
  case xor => cases H
  case andNot => cases H
  case sub => cases H
  case mul => cases H
  all_goals exact ⟨_, _, H, fun w => rfl, fun x w => vrel_bool _⟩

theorem eqOp_some {op : BinOp} {b : Bool} {k' : IV → R} (H : eqOp op b k' = some r) : (op = .eql ∧ k' (vb b) = some r) ∨ (op = .neq ∧ k' (vb (!b)) = some r) := by
  cases op <;> simp [eqOp] at H
  · exact .inl ⟨rfl, H⟩
  · exact .inr ⟨rfl, H⟩

theorem eqOp_sound {op : BinOp} {b : Bool} {A Bv : Value} {t : TypeId} {k' : IV → R} (H : eqOp op b k' = some r)
    (he : (binOp .eql t A Bv).run P w = .ok (.bool b) w) (hn : (binOp .neq t A Bv).run P w = .ok (.bool (!b)) w) :
    ∃ v y, k' y = some r ∧ (binOp op t A Bv).run P w = .ok v w ∧ IVRel x w v y := by
  rcases eqOp_some H with ⟨rfl, H⟩ | ⟨rfl, H⟩
  · exact ⟨_, _, H, he, vrel_bool _⟩
  · exact ⟨_, _, H, hn, vrel_bool _⟩

theorem eqFields_sound (hty : TyOK P cfg.ty) : ∀ (fs : List Field) (cs ds : List IC) (us vs : Array Value) (b : Bool), us.size = cs.length → vs.size = ds.length →
    (∀ j c, cs[j]? = some c → VRel x w (us.getD j undef) c) → (∀ j c, ds[j]? = some c → VRel x w (vs.getD j undef) c) → (∀ f, f ∈ fs → f.name ≠ "_") →
    eqFields cfg.ty (fs.map fun f => (f.offset, f.type)) cs ds = some b → (Op.eqFields 9999 us vs fs).run P w = .ok b w
  | [], cs, ds, us, vs, b, _, _, _, _, _, H => by
    simp only [List.map_nil, eqFields] at H; injection H with H; subst H; rfl
  | f :: fs, cs, ds, us, vs, b, hs1, hs2, hr1, hr2, hn, H => by
    simp only [List.map_cons, eqFields] at H
    cases hc : cs[f.offset]? with
    | none => simp [hc] at H
    | some c =>
      cases hd : ds[f.offset]? with
      | none => simp [hc, hd] at H
      | some d =>
        simp only [hc, hd] at H
        cases he : eqC (dOf cfg.ty f.type) c d with
        | none => simp [he] at H
        | some e =>
          cases hf : eqFields cfg.ty (fs.map fun f => (f.offset, f.type)) cs ds with
          | none => simp [he, hf] at H
          | some g =>
            simp only [he, hf] at H; injection H with H; subst H
            have ih := eqFields_sound hty fs cs ds us vs g hs1 hs2 hr1 hr2 (fun f' hf' => hn f' (by simp [hf'])) hf
            have hlt1 : f.offset < us.size := by
              rcases Nat.lt_or_ge f.offset us.size with h' | h'
              · exact h'
              · rw [List.getElem?_eq_none (by omega)] at hc; cases hc
            have hlt2 : f.offset < vs.size := by
              rcases Nat.lt_or_ge f.offset vs.size with h' | h'
              · exact h'
              · rw [List.getElem?_eq_none (by omega)] at hd; cases hd
            have h1 := hr1 _ _ hc
            have h2 := hr2 _ _ hd
            have part1 : ∀ (zs : Array Value), f.offset < zs.size → ∀ (hagg : (isAgg f.type).run P w = .ok false w), (part f.type zs f.offset).run P w = .ok (zs.getD f.offset undef) w := by
              intro zs hlt hagg
              unfold part
              rw [Sem.run_bind, hagg, Result.andThen_ok]
              simp [Array.getD, hlt]
            have main : ∀ (hagg : (isAgg f.type).run P w = .ok false w), (Op.equalIn 9999 f.type (us.getD f.offset undef) (vs.getD f.offset undef)).run P w = .ok e w →
                (Op.eqFields 9999 us vs (f :: fs)).run P w = .ok (e && g) w := by
              intro hagg heq
              rw [Op.eqFields, if_pos (hn f (by simp)), Sem.run_bind, part1 us hlt1 hagg, Result.andThen_ok, Sem.run_bind, part1 vs hlt2 hagg, Result.andThen_ok, Sem.run_bind, heq, Result.andThen_ok]
              cases e
              · simp
              · simpa using ih
            unfold eqC at he
            split at he
            · rename_i K k1 a k2 b hdd
              split at he
              · rename_i hk
                obtain ⟨rfl, rfl⟩ := hk
                injection he with he; subst he
                obtain ⟨d', hu, hdr⟩ := hty.und hdd
                have hds := hdr.int; subst hds
                refine main (by simp [isAgg, run_underlying hu]) ?_
                generalize us.getD f.offset undef = A at h1 ⊢
                generalize vs.getD f.offset undef = Bv at h2 ⊢
                cases h1; cases h2
                exact run_equalIn_int w 9998 f.type _ _ a b hu
              · cases he
            · rename_i a b hdd
              injection he with he; subst he
              obtain ⟨d', hu, hdr⟩ := hty.und hdd
              have hds := hdr.bool; subst hds
              refine main (by simp [isAgg, run_underlying hu]) ?_
              generalize us.getD f.offset undef = A at h1 ⊢
              generalize vs.getD f.offset undef = Bv at h2 ⊢
              cases h1; cases h2
              exact run_equalIn_bool' w 9998 f.type a b hu
            · rename_i a b hdd
              injection he with he; subst he
              obtain ⟨d', hu, hdr⟩ := hty.und hdd
              have hds := hdr.str; subst hds
              refine main (by simp [isAgg, run_underlying hu]) ?_
              generalize us.getD f.offset undef = A at h1 ⊢
              generalize vs.getD f.offset undef = Bv at h2 ⊢
              cases h1; cases h2
              exact run_equalIn_string w 9998 f.type a b hu
            · cases he

theorem isPtr_value {A : Value} {c : IC} (h : VRel x w A c) (hp : isPtr c = true) : ∃ ad, A = .pointer (some ad) := by
  cases h <;> first | exact ⟨_, rfl⟩ | (simp [isPtr] at hp)

theorem equal_ptr {t : TypeId} {d : TypeDesc} (hu : P.underlying t = some d) (A Bv : Value) (b : Bool)
    (hb : (match d, A, Bv with | .pointer _, .pointer none, .pointer b => b.isNone | .pointer _, .pointer _, .pointer none => false | .func _ _ _, .func _ _ _, .nilFunc => false | _, _, _ => !b) = b) :
    (Op.equal t A Bv).run P w = .ok b w := by
  show (Op.equalIn (9999 + 1) t A Bv).run P w = _
  rw [Op.equalIn, Sem.run_bind, run_underlying hu, Result.andThen_ok]
  split at hb
  · simp [hb]
  · subst hb; rename_i q _ _; cases q <;> simp_all
  · subst hb; simp
  · cases b <;> simp at hb

theorem equal_nilSl {t e : TypeId} {A : Value} {c : IC} {b : Bool} (hu : P.underlying t = some (.slice e)) (h : VRel x w A c) (hb : nilSl c = some b) :
    (Op.equal t A (.slice none 0 0)).run P w = .ok b w := by
  show (Op.equalIn (9999 + 1) t A (.slice none 0 0)).run P w = _
  rw [Op.equalIn, Sem.run_bind, run_underlying hu, Result.andThen_ok]
  cases h with
  | v _ h1 =>
    unfold nilSl at hb
    split at hb
    · rename_i he; injection he with he; subst he; simp at hb; subst hb; rfl
    · rename_i he; cases he
    · rename_i he; cases he
    · cases hb
  | emp a cap => simp [nilSl] at hb; subst hb; rfl
  | sl τ xs a cap rd hcap hnil hcell hel =>
    cases xs with
    | nil => simp [nilSl] at hb
    | cons y l =>
      simp [nilSl] at hb; subst hb
      obtain ⟨ad, h1, _⟩ := hcell 0 (by simp) 0 (width_pos τ)
      subst h1
      rfl
  | _ => simp [nilSl] at hb

theorem binK_sound (hty : TyOK P cfg.ty) (rel : HRel M B O x h u w) {op : BinOp} {t : Nat} {a b : IV} {A Bv : Value} (ha : IVRel x w A a) (hb : IVRel x w Bv b) (X Y : Operand)
    (H : binK cfg.ty op t a b (fun r => k ⟨r, [], []⟩) = some r) : ∃ out, k out = some r ∧ Step P M B O x h u w out (do eqGuard op t X Y A Bv; binOp op t A Bv) := by
  have fin : ∀ v y, k ⟨y, [], []⟩ = some r → (binOp op t A Bv).run P w = .ok v w → IVRel x w v y → (eqGuard op t X Y A Bv).run P w = .ok () w →
      ∃ out, k out = some r ∧ Step P M B O x h u w out (do eqGuard op t X Y A Bv; binOp op t A Bv) := by
    intro v y hk hv hy hg
    refine ⟨_, hk, Step.pure rel (v := v) ?_ hy⟩
    rw [Sem.run_bind, hg, Result.andThen_ok]; exact hv
  have guardOk : (∀ xs ys, ¬ (A = .agg xs ∧ Bv = .agg ys)) → ¬ (A = .nilIface ∧ Bv = .nilIface) → (eqGuard op t X Y A Bv).run P w = .ok () w := by
    intro h1 h2
    clear fin H
    cases op <;> first | rfl | (unfold eqGuard; cases A <;> cases Bv <;> first | rfl | (exfalso; exact h1 _ _ ⟨rfl, rfl⟩) | (exfalso; exact h2 ⟨rfl, rfl⟩))
  unfold binK at H
  split at H
  · rename_i K a K' b
    obtain ⟨rfl, _⟩ := iv_v ha
    obtain ⟨rfl, _⟩ := iv_v hb
    have hg := guardOk (fun _ _ h => by cases h.1) (fun h => by cases h.1)
    split at H
    · obtain ⟨h0, H⟩ := test_some H
      have h0 := of_decide_eq_true h0
      refine fin _ _ H ?_ (vrel_int _ _) hg
      have h1 : ¬ b < 0 := by omega
      simp [binOp, Op.shift, h1]
    · obtain ⟨h0, H⟩ := test_some H
      have h0 := of_decide_eq_true h0
      refine fin _ _ H ?_ (vrel_int _ _) hg
      have h1 : ¬ b < 0 := by omega
      simp [binOp, Op.shift, h1]
    · obtain ⟨hk, H1⟩ := need_some H
      clear H
      subst hk
      obtain ⟨v, y, h1, h2, h3⟩ := intBin_sound (P := P) (t := t) H1
      exact fin v y h1 (h2 w) (h3 x w) hg
  · rename_i a b
    obtain ⟨rfl, _⟩ := iv_v ha
    obtain ⟨rfl, _⟩ := iv_v hb
    have hg := guardOk (fun _ _ h => by cases h.1) (fun h => by cases h.1)
    obtain ⟨v, y, h1, h2, h3⟩ := strBin_sound (P := P) (t := t) H
    exact fin v y h1 (h2 w) (h3 x w) hg
  · rename_i a b
    obtain ⟨rfl, _⟩ := iv_v ha
    obtain ⟨rfl, _⟩ := iv_v hb
    have hg := guardOk (fun _ _ h => by cases h.1) (fun h => by cases h.1)
    split at H
    · rename_i hd
      obtain ⟨d', hu, hdr⟩ := hty.und hd
      have hds := hdr.bool; subst hds
      have he : (Op.equal t (.bool a) (.bool b)).run P w = .ok (a == b) w := run_equalIn_bool' w 9999 t a b hu
      obtain ⟨v, y, h1, h2, h3⟩ := eqOp_sound (P := P) (x := x) (w := w) (A := .bool a) (Bv := .bool b) (t := t) H (by simp [binOp, he]) (by simp [binOp, he])
      exact fin v y h1 h2 h3 hg
    · cases H
  · rename_i cs ds
    cases ha with
    | agg us _ hs1 hr1 =>
      cases hb with
      | agg vs _ hs2 hr2 =>
        split at H
        · rename_i fs hd
          obtain ⟨b, hb, H1⟩ := bindK_some H
          clear H
          obtain ⟨d', hu, hdr⟩ := hty.und hd
          obtain ⟨fs', rfl, h3, h4, h5, h6, h7⟩ := hdr.st
          subst h3
          have h8 := eqFields_sound hty fs'.toList cs ds us vs b hs1 hs2 hr1 hr2 h4 hb
          have he : (Op.equalIn 10000 t (.agg us) (.agg vs)).run P w = .ok b w := by
            rw [run_equalIn_agg w 9999 t us vs (by rw [h7]; exact hu) h6, h7]; exact h8
          obtain ⟨v, y, h1, h2, h3⟩ := eqOp_sound (P := P) (x := x) (w := w) (A := .agg us) (Bv := .agg vs) (t := t) H1 (by rw [run_eql_struct, he]; rfl) (by rw [run_neq_struct, he]; rfl)
          exact fin v y h1 h2 h3 (run_eqGuard_agg w op t X Y us vs h5)
        · cases H
  · obtain ⟨rfl, _⟩ := iv_v ha
    obtain ⟨rfl, _⟩ := iv_v hb
    have hg := guardOk (fun _ _ h => by cases h.1) (fun h => by cases h.1)
    split at H
    · rename_i e hd
      obtain ⟨d', hu, hdr⟩ := hty.und hd
      have hds := hdr.ptr; subst hds
      have he : (Op.equal t (.pointer none) (.pointer none)).run P w = .ok true w := equal_ptr hu _ _ _ (by rfl)
      obtain ⟨v, y, h1, h2, h3⟩ := eqOp_sound (P := P) (x := x) (w := w) (A := .pointer none) (Bv := .pointer none) (t := t) H (by simp [binOp, he]) (by simp [binOp, he])
      exact fin v y h1 h2 h3 hg
    · cases H
  · rename_i c
    obtain ⟨rfl, _⟩ := iv_v hb
    have hg := guardOk (fun _ _ h => by cases h.2) (fun h => by cases h.2)
    split at H
    · rename_i e hd
      obtain ⟨b, hb', H1⟩ := bindK_some H
      clear H
      obtain ⟨d', hu, hdr⟩ := hty.und hd
      have hds := hdr.sl; subst hds
      have he := equal_nilSl (P := P) (w := w) hu (iv_c ha) hb'
      obtain ⟨v, y, h1, h2, h3⟩ := eqOp_sound (P := P) (x := x) (w := w) (A := A) (Bv := .slice none 0 0) (t := t) H1 (by simp [binOp, he]) (by simp [binOp, he])
      exact fin v y h1 h2 h3 hg
    · cases H
  · rename_i f cap
    obtain ⟨rfl, _⟩ := iv_v hb
    cases iv_c ha with
    | fn _ _ caps hs hel =>
      have hg := guardOk (fun _ _ h => by cases h.1) (fun h => by cases h.1)
      split at H
      · rename_i hd
        obtain ⟨d', hu, hdr⟩ := hty.und hd
        obtain ⟨p1, p2, p3, rfl⟩ := hdr.fnc
        have he : (Op.equal t (.func (.func f) #[] caps) .nilFunc).run P w = .ok false w := equal_ptr hu _ _ _ (by rfl)
        obtain ⟨v, y, h1, h2, h3⟩ := eqOp_sound (P := P) (x := x) (w := w) (A := .func (.func f) #[] caps) (Bv := .nilFunc) (t := t) H (by simp [binOp, he]) (by simp [binOp, he])
        exact fin v y h1 h2 h3 hg
      · cases H
  · rename_i c hno
    obtain ⟨rfl, _⟩ := iv_v hb
    split at H
    · rename_i e hd
      obtain ⟨hp, H⟩ := need_some H
      obtain ⟨ad, rfl⟩ := isPtr_value (iv_c ha) hp
      have hg := guardOk (fun _ _ h => by cases h.1) (fun h => by cases h.1)
      obtain ⟨d', hu, hdr⟩ := hty.und hd
      have hds := hdr.ptr; subst hds
      have he : (Op.equal t (.pointer (some ad)) (.pointer none)).run P w = .ok false w := equal_ptr hu _ _ _ (by rfl)
      obtain ⟨v, y, h1, h2, h3⟩ := eqOp_sound (P := P) (x := x) (w := w) (A := .pointer (some ad)) (Bv := .pointer none) (t := t) H (by simp [binOp, he]) (by simp [binOp, he])
      exact fin v y h1 h2 h3 hg
    · cases H
  · cases H

theorem unK_sound (rel : HRel M B O x h u w) {op : UnOp} {a : IV} {A : Value} (ha : IVRel x w A a) (H : unK op a (fun r => k ⟨r, [], []⟩) = some r) :
    ∃ out, k out = some r ∧ Step P M B O x h u w out (Op.unary op A) := by
  unfold unK at H
  split at H
  · obtain ⟨rfl, _⟩ := iv_v ha
    exact ⟨_, H, Step.pure rel rfl (vrel_bool _)⟩
  · obtain ⟨rfl, _⟩ := iv_v ha
    exact ⟨_, H, Step.pure rel rfl (vrel_int _ _)⟩
  · rename_i K n
    obtain ⟨rfl, _⟩ := iv_v ha
    simp only [intBin] at H
    exact ⟨_, H, Step.pure rel rfl (vrel_int _ _)⟩
  · cases H

end
end Go.Proofs.Ytdoilggfajngiaa.VE
