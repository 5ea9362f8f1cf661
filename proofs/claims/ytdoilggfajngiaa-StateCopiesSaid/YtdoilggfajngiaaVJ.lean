/-
  Each operation of the ideal machine is the model's, continued: stores, slice literals, make.
-/
import Derived.Test.YtdoilggfajngiaaVI
namespace Go.Proofs.Ytdoilggfajngiaa.VE
open Go Go.RowKit

/-- An operation that answers nothing. -/
def StepU (P : Program) (M : Nat → Prop) (B : Nat) (O : Nat → Nat → Prop) (x : Xs) (h : Nat → Option Box) (u : Nat → Bool) (w : World) (out : Out) (s : Sem Unit) : Prop :=
  ∃ w' x', s.run P w = .ok () w' ∧ Ext x w x' w' ∧ Fr M B w w' ∧ HRel M B O x' (updMany h out.ups) (updMany u (out.news.map fun i => (i, true))) w'

section
variable {P : Program} {cfg : Cfg} {M : Nat → Prop} {B key : Nat} {O : Nat → Nat → Prop} {x : Xs} {h hr : Nat → Option Box} {u : Nat → Bool} {w : World} {k : Out → R} {r : IV × List (Nat × Box)}

theorem celled_of {a : IV} (h1 : (cellsOf a).any isJunk = false) (h2 : notTup a = true) : celled a = true := by
  cases a with
  | c y => cases y <;> first | rfl | (simp [cellsOf, isJunk] at h1)
  | agg => rfl
  | tup => simp [notTup] at h2

theorem cells_one {a : IV} {A : Value} (ha : IVRel x w A a) (h1 : (cellsOf a).any isJunk = false) (h2 : notTup a = true) : ∀ v, v ∈ A.cells.toList → v.oneCell' = true := by
  intro v hv
  obtain ⟨e1, e2⟩ := ha.celled (celled_of h1 h2)
  obtain ⟨j, hj⟩ := List.mem_iff_getElem?.1 hv
  have hlt : j < (cellsOf a).length := by
    rcases Nat.lt_or_ge j (cellsOf a).length with h' | h'
    · exact h'
    · rw [List.getElem?_eq_none (by simp; omega)] at hj; cases hj
  have h3 := e2 j _ (List.getElem?_eq_getElem hlt)
  have h4 : A.cells.getD j undef = v := by rw [getD_ext]; simp at hj; simp [hj]
  rw [h4] at h3
  refine h3.one ?_
  have := List.any_eq_false.1 h1 _ (List.getElem_mem hlt)
  simpa using this

theorem run_storeVar {t : TypeId} {i : TI} (hT : TOK P t i) {k off : Nat} {vs : Array Value} {e : TypeId} {A : Value} (hs : A.cells.size = i.size) (h1 : ∀ v, v ∈ A.cells.toList → v.oneCell' = true)
    (hw : w.heap[k]? = some (.cells vs e (0, 0))) (hl : off + i.size ≤ vs.size) : (Instr.storeAt t (.pointer (some ⟨k, off, none⟩)) A).run P w = .ok () (World.putBlk w k (.cells (wr vs off A.cells.toList) e (0, 0))) := by
  have h2 : ¬ (A.cells.size ≠ i.size) := by simp [hs]
  have h3 := run_storeCells (P := P) (k := k) (off := off) (e := e) A.cells.toList 0 w vs h1 hw (by simp; omega)
  simp only [Instr.storeAt, Instr.sureAddr, Sem.run_bind, Sem.run_pure, Result.andThen_ok, storeVar, hT.runSize, if_neg h2]
  exact h3

theorem settle_cells {fz : List (Nat × Option Box)} {x' : Xs} (hf : Frozen x w h fz x') (hsub : ∀ i b, hr i = some b → h i = some b) {cs : List IC} (hc : ∀ p, p ∈ freezeAll hr cs → p ∈ fz) {vs : Array Value}
    (hv : ∀ j y, cs[j]? = some y → VRel x w (vs.getD j undef) y) : ∀ j y, (cs.map (settle hr))[j]? = some y → VRel x' w (vs.getD j undef) y := by
  intro j y hy
  rw [List.getElem?_map] at hy
  cases hj : cs[j]? with
  | none => simp [hj] at hy
  | some c =>
    simp [hj] at hy; subst hy
    exact hf.settle hsub (fun p hp => hc p (mem_freezeAll.2 ⟨c, List.mem_of_getElem? hj, hp⟩)) (hv j c hj)

theorem storeK_sound (hty : TyOK P cfg.ty) (rel : HRel M B O x h u w) (hsub : ∀ i b, hr i = some b → h i = some b) {t : Nat} {a y : IV} {A Y : Value} (ha : IVRel x w A a) (hy : IVRel x w Y y)
    (H : storeK cfg hr k t a y = some r) : ∃ out, k out = some r ∧ out.v = .c .junk ∧ StepU P M B O x h u w out (Instr.storeAt t A Y) := by
  unfold storeK at H
  obtain ⟨i, hi, H1⟩ := bindK_some H
  obtain ⟨⟨hsz, hj, hnt⟩, H2⟩ := need_some H1
  clear H H1
  have hT := hty _ _ hi
  have hcell := celled_of hj hnt
  obtain ⟨e1, e2⟩ := hy.celled hcell
  have hone := cells_one hy hj hnt
  split at H2
  · rename_i id off
    split at H2
    · rename_i ty cs hbx
      obtain ⟨hle, H3⟩ := need_some H2
      obtain ⟨q', hq', hbr⟩ := rel.box _ _ (hsub _ _ hbx)
      have ha' := iv_c ha
      cases ha' with
      | ref _ _ q b hg hb =>
        rw [hg] at hq'; injection hq' with hq'; subst hq'
        cases hbr with
        | cells _ _ b' vs e hq hw hs hrel =>
          rw [hb] at hq; injection hq with hq; subst hq
          have hown := rel.own id _ q b (hsub _ _ hbx) rfl hg hb
          refine ⟨_, H3, rfl, World.putBlk w b (.cells (wr vs off Y.cells.toList) e (0, 0)), x, run_storeVar hT (by omega) hone hw (by omega), Ext.putBlk hown.2 rel.okp _, Fr.putBlk hown.1 _, ?_⟩
          refine rel.putBlk (hsub _ _ hbx) rfl hg hb _ _ _ ?_
          have he := Ext.putBlk (w := w) hown.2 rel.okp (.cells (wr vs off Y.cells.toList) e (0, 0))
          refine .cells _ _ b _ e hb (putBlk_same (lt_of_some hw) _) (by rw [wr_size, splice_length, hs]) ?_
          exact fun j c hc => (wr_rel hs (by simpa using e1) (by omega) hrel (fun j c hj => by simpa [List.getD] using e2 j c hj) j c hc).ext he
    · cases H2
  · rename_i id wd jx off
    split at H2
    · rename_i ty τ xs hbx
      obtain ⟨⟨hwd, hle⟩, H3⟩ := need_some H2
      obtain ⟨el, hel, H4⟩ := bindK_some H3
      obtain ⟨hnid, H5⟩ := need_some H4
      clear H2 H3 H4
      obtain ⟨x', hfz, rel'⟩ := rel.frozen (freezeAll hr (cellsOf y)) (fun p hp => by obtain ⟨c, _, hc⟩ := mem_freezeAll.1 hp; exact freezes_fz hsub hc)
      have hid : updMany h (freezeAll hr (cellsOf y)) id = some (.arr ty τ xs false) := by
        rw [updMany_other _ _ _ fun p hp => ?_]
        · exact hsub _ _ hbx
        · have := List.all_eq_true.1 hnid p hp
          intro e; rw [e] at this; simp at this
      obtain ⟨q', hq', hbr⟩ := rel'.box _ _ hid
      have ha' := (iv_c ha).ext hfz.ext
      cases ha' with
      | eref _ _ _ _ q b hg hb hix =>
        rw [hg] at hq'; injection hq' with hq'; subst hq'
        cases hbr with
        | none _ _ _ h1 => rw [hb] at h1; cases h1
        | arr _ _ _ _ b' vs e hq hw hl hc hs hrel hfr =>
          rw [hb] at hq; injection hq with hq; subst hq
          have hown := rel'.own id _ q b hid rfl hg hb
          have hjx : jx < xs.length := by omega
          have hlt : jx * width τ + width τ ≤ vs.size := by
            rw [hs]
            have : (jx + 1) * width τ ≤ q.cap * width τ := Nat.mul_le_mul_right _ (by omega)
            rw [Nat.add_mul] at this; omega
          subst hwd
          have he := Ext.putBlk (w := w) hown.2 rel'.okp (.cells (wr vs (jx * width τ + off) Y.cells.toList) e (0, 0))
          refine ⟨_, H5, rfl, World.putBlk w b (.cells (wr vs (jx * width τ + off) Y.cells.toList) e (0, 0)), x', run_storeVar hT (by omega) hone hw (by omega), hfz.ext.trans he, Fr.putBlk hown.1 _, ?_⟩
          rw [updMany_append]
          refine rel'.putBlk hid rfl hg hb _ _ _ ?_
          have hYl : Y.cells.toList.length = (cellsOf y).length := by simpa using e1
          refine .arr _ _ _ _ b _ e hb (putBlk_same (lt_of_some hw) _) (by simpa using hl) (by simpa using hc) (by rw [wr_size, hs]) ?_ (fun hf => by cases hf)
          obtain ⟨g1, g2⟩ := dec1_get hel
          rw [splice_length, enc_length] at g1
          have hset := settle_cells (vs := Y.cells) hfz hsub (fun p hp => hp) e2
          intro m el' hm j c hc
          have hjw : j < width τ := by
            have := enc_length τ el'
            rcases Nat.lt_or_ge j (width τ) with h' | h'
            · exact h'
            · rw [List.getElem?_eq_none (by omega)] at hc; cases hc
          refine VRel.ext he ?_
          rw [getD_ext, wr_get _ _ _ _ (by omega), hYl]
          by_cases hmj : m = jx
          · subst hmj
            rw [List.getElem?_set_self hjx] at hm
            injection hm with hm; subst hm
            obtain ⟨c0, hc0, ht⟩ := g2 j c hc
            rw [splice_get _ _ _ _ (by rw [enc_length, List.length_map]; omega), List.length_map] at hc0
            refine ht _ _ _ ?_
            by_cases h1 : j < off
            · rw [if_pos h1] at hc0
              rw [if_pos (by omega)]
              have := hrel m _ (rdEl_get hjx) j c0 hc0
              rwa [getD_ext] at this
            · rw [if_neg h1] at hc0
              rw [if_neg (by omega)]
              by_cases h2 : j < off + (cellsOf y).length
              · rw [if_pos h2] at hc0
                rw [if_pos (by omega)]
                have := hset _ _ hc0
                have e9 : m * width τ + j - (m * width τ + off) = j - off := by omega
                rw [e9]
                simpa [List.getD] using this
              · rw [if_neg h2] at hc0
                rw [if_neg (by omega)]
                have := hrel m _ (rdEl_get hjx) j c0 hc0
                rwa [getD_ext] at this
          · rw [List.getElem?_set_ne (Ne.symm hmj)] at hm
            have hold := hrel m el' hm j c hc
            rw [getD_ext] at hold
            rcases Nat.lt_or_ge m jx with h1 | h1
            · have : (m + 1) * width τ ≤ jx * width τ := Nat.mul_le_mul_right _ (by omega)
              rw [Nat.add_mul] at this
              rw [if_pos (by omega)]; exact hold
            · have : (jx + 1) * width τ ≤ m * width τ := Nat.mul_le_mul_right _ (by omega)
              rw [Nat.add_mul] at this
              rw [if_neg (by omega), if_neg (by omega)]; exact hold
    · cases H2
  · cases H2

/-! ### a slice literal -/

theorem buildEls_sound {t : Ty} {x' : Xs} {fz : List (Nat × Option Box)} (hf : Frozen x w h fz x') (hsub : ∀ i b, hr i = some b → h i = some b) :
    ∀ (ix : List Nat) (xs : List IV) (us : List Value) (i0 : Nat) (arr : Array Value) (l : List (El t)), ix.length = xs.length → us.length = xs.length →
    (∀ j y, xs[j]? = some y → IVRel x w (us.getD j undef) y ∧ celled y = true) → (∀ p, p ∈ freezeIVs hr xs → p ∈ fz) → (i0 + ix.length) * width t ≤ arr.size →
    buildEls hr t i0 (ix.zip xs) = some l → ∃ arr', Instr.fill (fun i => some (i * width t, width t)) arr (ix.zip us) = some arr' ∧ arr'.size = arr.size ∧ l.length = ix.length ∧
      (∀ m, m < i0 * width t → arr'[m]? = arr[m]?) ∧ ∀ n e, l[n]? = some e → ∀ (j : Nat) (c : IC), (enc t e)[j]? = some c → VRel x' w (arr'.getD ((i0 + n) * width t + j) undef) c
  | [], xs, us, i0, arr, l, h1, h2, _, _, _, H => by
    simp [buildEls] at H; subst H
    exact ⟨arr, by simp [Instr.fill], rfl, rfl, fun _ _ => rfl, fun n e hn => by simp at hn⟩
  | i :: ix, xs, us, i0, arr, l, h1, h2, ha, hfz, hle, H => by
    match xs, us, h1, h2 with
    | y :: xs, v :: us, h1, h2 =>
      simp only [List.length_cons] at h1 h2 hle
      simp only [List.zip_cons_cons, buildEls] at H
      split at H
      case isFalse => cases H
      rename_i hi; subst hi
      cases he : elOf hr t y with
      | none => simp [he] at H
      | some e0 =>
        cases hl : buildEls hr t (i + 1) (ix.zip xs) with
        | none => simp [he, hl] at H
        | some l0 =>
          simp [he, hl] at H; subst H
          obtain ⟨hy, hyc⟩ := ha 0 y rfl
          simp only [List.getD_cons_zero] at hy
          obtain ⟨e1, e2⟩ := hy.celled hyc
          obtain ⟨g1, g2⟩ := dec1_get he
          rw [List.length_map] at g1
          have hsz : v.cells.size = width t := by omega
          have hmul : (i + 1) * width t ≤ (i + (ix.length + 1)) * width t := Nat.mul_le_mul_right _ (by omega)
          rw [Nat.add_mul, Nat.one_mul] at hmul
          have hset := settle_cells (vs := v.cells) hf hsub (cs := cellsOf y) (fun p hp => hfz p (by simp only [freezeIVs, List.foldr_cons, List.mem_append]; exact .inl hp)) e2
          obtain ⟨arr', f1, f2, f3, f4, f5⟩ := buildEls_sound hf hsub ix xs us (i + 1) (wr arr (i * width t) v.cells.toList) l0 (by omega) (by omega) (fun j y' hj => by simpa using ha (j + 1) y' (by simpa using hj))
            (fun p hp => hfz p (by simp only [freezeIVs, List.foldr_cons, List.mem_append]; exact .inr hp)) (by rw [wr_size, show i + 1 + ix.length = i + (ix.length + 1) by omega]; exact hle) hl
          have hwl : i * width t + v.cells.toList.length ≤ arr.size := by simp only [Array.length_toList, hsz]; omega
          refine ⟨arr', ?_, by rw [f2, wr_size], by simp [f3], fun m hm => ?_, fun n e hn j c hc => ?_⟩
          · rw [List.zip_cons_cons, fill_step _ arr i (i * width t) (width t) v _ rfl hsz (by omega)]; exact f1
          · rw [f4 m (by rw [Nat.add_mul]; omega), wr_get _ _ _ _ hwl, if_pos hm]
          · cases n with
            | zero =>
              simp at hn; subst hn
              have hjw : j < width t := by
                have := enc_length t e0
                rcases Nat.lt_or_ge j (width t) with h' | h'
                · exact h'
                · rw [List.getElem?_eq_none (by omega)] at hc; cases hc
              obtain ⟨c0, hc0, ht⟩ := g2 j c hc
              rw [getD_ext, Nat.add_zero, f4 _ (by rw [Nat.add_mul]; omega), wr_get _ _ _ _ hwl, if_neg (by omega), if_pos (by simp only [Array.length_toList]; omega)]
              refine ht _ _ _ ?_
              have := hset j c0 hc0
              have e9 : i * width t + j - i * width t = j := by omega
              rw [e9]
              simpa [List.getD] using this
            | succ n =>
              have := f5 n e (by simpa using hn) j c hc
              have e9 : i + (n + 1) = i + 1 + n := by omega
              rw [e9]; exact this

theorem mem_freezeIVs {xs : List IV} {p : Nat × Option Box} (hp : p ∈ freezeIVs hr xs) : ∃ y, y ∈ xs ∧ p ∈ freezeAll hr (cellsOf y) := by
  unfold freezeIVs at hp
  induction xs with
  | nil => simp at hp
  | cons a l ih =>
    simp only [List.foldr_cons, List.mem_append] at hp
    rcases hp with hp | hp
    · exact ⟨a, by simp, hp⟩
    · obtain ⟨y, h1, h2⟩ := ih hp; exact ⟨y, by simp [h1], h2⟩

theorem range_map_size (n : Nat) (f : Nat → Value) : ((Array.range n).map f).size = n := by simp

theorem buildSliceK_sound (hty : TyOK P cfg.ty) (rel : HRel M B O x h u w) (hsub : ∀ i b, hr i = some b → h i = some b) {t len : Nat} {parts : Array (Nat × Operand)} {ρ : Operand → Value} {xs : List IV}
    (hl : xs.length = parts.size) (ha : ∀ j y, xs[j]? = some y → IVRel x w ((parts.toList.map fun p => ρ p.2).getD j undef) y)
    (H : buildSliceK cfg key hr k t len (parts.toList.map (·.1)) xs = some r) : ∃ out, k out = some r ∧ ((∀ i, i ∈ out.news → u i = false) → Step P M B O x h u w out (Instr.buildSlice t len (parts.map fun p => (p.1, ρ p.2)))) := by
  unfold buildSliceK at H
  split at H
  · rename_i e hd
    obtain ⟨i, hi, H1⟩ := bindK_some H
    obtain ⟨τ, hτ, H2⟩ := bindK_some H1
    obtain ⟨⟨h1, h2, h3, h4, h5⟩, H3⟩ := need_some H2
    obtain ⟨l, hl', H4⟩ := bindK_some H3
    clear H H1 H2 H3
    refine ⟨_, H4, fun hf => ?_⟩
    have hk : u key = false := hf key (by simp)
    obtain ⟨d, hu, hdr⟩ := hty.und hd
    have hds := hdr.sl; subst hds
    have hT := hty _ _ hi
    obtain ⟨z, hz, hzs, _, _⟩ := hT.runZero
    obtain ⟨x1, hfz, rel1⟩ := rel.frozen (freezeIVs hr xs) (fun p hp => by
      obtain ⟨y, _, hp⟩ := mem_freezeIVs hp
      obtain ⟨c, _, hc⟩ := mem_freezeAll.1 hp; exact freezes_fz hsub hc)
    have hxl : (parts.toList.map (·.1)).length = len := h2
    obtain ⟨arr', f1, f2, f3, _, f5⟩ := buildEls_sound hfz hsub (parts.toList.map (·.1)) xs (parts.toList.map fun p => ρ p.2) 0 ((Array.range (len * i.size)).map fun m => (if len * i.size = 0 then #[] else z.cells)[m % (if len * i.size = 0 then #[] else z.cells).size]!) l h1 (by simp [hl])
      (fun j y hj => ⟨ha j y hj, by simpa using List.all_eq_true.1 h4 y (List.mem_of_getElem? hj)⟩) (fun p hp => hp) (by rw [range_map_size, hxl, Nat.zero_add, h5]; exact Nat.le_refl _) hl'
    rw [range_map_size] at f2
    have hll : l.length = len := by rw [f3, hxl]
    have he := Ext.alloc rel1 hk ⟨some w.heap.size, len, len⟩ (.cells arr' e)
    refine ⟨.slice (some ⟨w.heap.size, 0, none⟩) len len, w.alloc (.cells arr' e), x1.new key ⟨some w.heap.size, len, len⟩, ?_, hfz.ext.trans he, Fr.alloc _ rel.big _, ?_, ?_⟩
    · have h6 : ¬ (len * i.size > 2 ^ 24) := by omega
      rw [← h5] at f1
      simp only [Instr.buildSlice, Sem.run_bind, run_underlying hu, Result.andThen_ok, hT.runSize, if_neg h6]
      rw [← zipIvs _ parts ρ rfl] at f1
      by_cases hz0 : len * i.size = 0
      · rw [if_pos hz0] at f1 ⊢
        simp only [Sem.run_bind, Sem.run_pure, Result.andThen_ok, f1]
        simp [newRow]
      · rw [if_neg hz0] at f1 ⊢
        simp only [Sem.run_bind, Sem.run_pure, Result.andThen_ok, hz, f1]
        simp [newRow]
    · rw [updMany_append]
      refine rel1.alloc hk arr' e len len _ (.arr _ _ _ _ w.heap.size arr' e rfl (heap_alloc_new _ _) hll.symm (by simp [hll]) (by rw [f2, h5]) (fun n e' hn j c hc => ?_) (fun hf => by cases hf))
      have := f5 n e' hn j c hc
      rw [Nat.zero_add] at this
      exact this.ext he
    · exact .c _ _ (VRel.sref key ⟨some w.heap.size, len, len⟩ (upd_same _ _ _))
  · cases H

end
end Go.Proofs.Ytdoilggfajngiaa.VE
