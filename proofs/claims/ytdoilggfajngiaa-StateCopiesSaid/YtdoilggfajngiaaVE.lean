/-
  Each operation of the ideal machine is the model's: the quiet ones (they turn no memory that was there but the activation's own).
-/
import Derived.Test.YtdoilggfajngiaaVD
import Derived.Laws.StructEq
import Derived.Laws.Append
import Derived.Laws.Cells
import Derived.Laws.Slices
namespace Go.Proofs.Ytdoilggfajngiaa.VE
open Go Go.RowKit

def DRel (P : Program) (t : TypeId) : TypeDesc → D → Prop
  | .int k, .int k' => k = k'
  | .bool, .bool => True
  | .string, .str => True
  | .slice e, .sl e' => e = e'
  | .pointer e, .ptr e' => e = e'
  | .struct fs, .st l => fs.toList.map (fun f => (f.offset, f.type)) = l ∧ (∀ f, f ∈ fs.toList → f.name ≠ "_") ∧ P.eqGuardType P.depth t = false ∧ P.stoodInHeld t = false ∧ P.fieldsOf t = fs
  | .array n e, .arr n' e' => n = n' ∧ e = e'
  | .func _ _ _, .fnc => True
  | .map k e, .map k' e' => k = k' ∧ e = e'
  | .struct _, .other => False
  | .array _ _, .other => False
  | _, .other => True
  | _, _ => False

structure TOK (P : Program) (t : TypeId) (i : TI) : Prop where
  info : ∃ ti z, P.info? t = some ti ∧ ti.size = i.size ∧ ti.bytes = i.bytes ∧ ti.zero = some z ∧ z.cells.size = i.size ∧ i.zero = z.cells.toList.map IC.v ∧ (∀ u, u ∈ z.cells.toList → u.oneCell' = true)
  und : ∃ d, P.underlying t = some d ∧ DRel P t d i.d
  zone : i.d.agg = false → ∀ ti z, P.info? t = some ti → ti.zero = some z → z.oneCell' = true

section
variable {P : Program} {t : TypeId} {i : TI}

theorem TOK.runInfo (h : TOK P t i) : ∃ ti, (∀ w, (typeInfo t).run P w = .ok ti w) ∧ ti.size = i.size ∧ ti.bytes = i.bytes := by
  obtain ⟨ti, z, h1, h2, h3, _⟩ := h.info
  exact ⟨ti, fun w => by simp [typeInfo, h1], h2, h3⟩

theorem TOK.runSize (h : TOK P t i) (w : World) : (sizeOf t).run P w = .ok i.size w := by
  obtain ⟨ti, h1, h2, _⟩ := h.runInfo
  simp [sizeOf, h1, h2]

theorem TOK.runZero (h : TOK P t i) : ∃ z, (∀ w, (zeroValue t).run P w = .ok z w) ∧ z.cells.size = i.size ∧ i.zero = z.cells.toList.map IC.v ∧ (∀ u, u ∈ z.cells.toList → u.oneCell' = true) := by
  obtain ⟨ti, z, h1, _, _, h4, h5, h6, h7⟩ := h.info
  exact ⟨z, fun w => by simp [zeroValue, typeInfo, h1, h4], h5, h6, h7⟩

theorem TOK.runZero1 (h : TOK P t i) (ha : i.d.agg = false) : ∃ z, (∀ w, (zeroValue t).run P w = .ok z w) ∧ i.zero = [IC.v z] ∧ z.oneCell' = true := by
  obtain ⟨ti, z, h1, _, _, h4, h5, h6, h7⟩ := h.info
  have h1' := h.zone ha ti z h1 h4
  refine ⟨z, fun w => by simp [zeroValue, typeInfo, h1, h4], ?_, h1'⟩
  have e : z.cells = #[z] := by cases z <;> first | rfl | (simp [Value.oneCell'] at h1')
  rw [h6, e]; rfl

theorem TOK.runAgg (h : TOK P t i) (w : World) : (isAgg t).run P w = .ok i.d.agg w := by
  obtain ⟨d, h1, h2⟩ := h.und
  simp only [isAgg, Sem.run_bind, run_underlying h1, Result.andThen_ok]
  cases d <;> cases hd : i.d <;> simp [hd, DRel, D.agg] at h2 ⊢

theorem TOK.runPart (h : TOK P t i) (cs : Array Value) (off : Nat) (w : World) (hl : off + i.size ≤ cs.size) (h1 : i.d.agg = false → i.size = 1) :
    (part t cs off).run P w = .ok (if i.d.agg then .agg (cs.extract off (off + i.size)) else cs.getD off undef) w := by
  unfold part
  rw [Sem.run_bind, h.runAgg, Result.andThen_ok]
  cases ha : i.d.agg with
  | true =>
    simp only [if_true]
    rw [Sem.run_bind, h.runSize]
    rfl
  | false =>
    have := h1 ha
    have hlt : off < cs.size := by omega
    simp only [Bool.false_eq_true, if_false]
    rw [Array.getElem?_eq_getElem hlt]
    simp [Array.getD, hlt]
end

/-- What an operation's machine does, as the ideal machine has it. -/
def Step (P : Program) (M : Nat → Prop) (B : Nat) (O : Nat → Nat → Prop) (x : Xs) (h : Nat → Option Box) (u : Nat → Bool) (w : World) (out : Out) (s : Sem Value) : Prop :=
  ∃ v w' x', s.run P w = .ok v w' ∧ Ext x w x' w' ∧ Fr M B w w' ∧ HRel M B O x' (updMany h out.ups) (updMany u (out.news.map fun i => (i, true))) w' ∧ IVRel x' w' v out.v

section
variable {P : Program} {cfg : Cfg} {M : Nat → Prop} {B key : Nat} {O : Nat → Nat → Prop} {x : Xs} {h hr : Nat → Option Box} {u : Nat → Bool} {w : World} {k : Out → R} {r : IV × List (Nat × Box)}

theorem Step.pure (rel : HRel M B O x h u w) {s : Sem Value} {v : Value} {o : IV} (hs : s.run P w = .ok v w) (hv : IVRel x w v o) : Step P M B O x h u w ⟨o, [], []⟩ s :=
  ⟨v, w, x, hs, Ext.refl _ _, Fr.refl _ _ _, rel, hv⟩

def TyOK (P : Program) (ty : Nat → Option TI) : Prop := ∀ t i, ty t = some i → TOK P t i

theorem dOf_some {ty : Nat → Option TI} {t : Nat} {d : D} (h : dOf ty t = some d) : ∃ i, ty t = some i ∧ i.d = d := by
  unfold dOf at h
  cases hi : ty t with
  | none => simp [hi] at h
  | some i => simp [hi] at h; exact ⟨i, rfl, h⟩

theorem cut_some {cs : List IC} {off n : Nat} {r : List IC} (h : cut cs off n = some r) : off + n ≤ cs.length ∧ r = (cs.drop off).take n := by
  unfold cut at h
  split at h
  · injection h with h; exact ⟨‹_›, h.symm⟩
  · cases h

theorem cut_get {cs : List IC} {off n : Nat} {r : List IC} (h : cut cs off n = some r) : r.length = n ∧ ∀ j, j < n → r[j]? = cs[off + j]? := by
  obtain ⟨h1, rfl⟩ := cut_some h
  refine ⟨by simp; omega, fun j hj => ?_⟩
  rw [List.getElem?_take_of_lt hj, List.getElem?_drop]

/-- A row of cells in memory, told. -/
structure Row (x : Xs) (w : World) (ad : Addr) (cs : List IC) (us : List Value) : Prop where
  len : us.length = cs.length
  cell : ∀ j v, us[j]? = some v → w.cell? (ad.add j) = some v
  rel : ∀ j c, cs[j]? = some c → VRel x w (us.getD j undef) c

theorem Row.cut {ad : Addr} {cs : List IC} {us : List Value} (hr : Row x w ad cs us) {off n : Nat} {r : List IC} (h : cut cs off n = some r) (hs : ad.spot = none) :
    Row x w (ad.add off) r ((us.drop off).take n) := by
  obtain ⟨h1, h2⟩ := cut_get h
  have h3 := (cut_some h).1
  refine ⟨by have := hr.len; simp [h1]; omega, fun j v hv => ?_, fun j c hc => ?_⟩
  · have hj : j < n := by
      rcases Nat.lt_or_ge j n with h' | h'
      · exact h'
      · rw [List.getElem?_eq_none (by simp; omega)] at hv; cases hv
    rw [List.getElem?_take_of_lt hj, List.getElem?_drop] at hv
    have := hr.cell _ _ hv
    obtain ⟨b, o, sp⟩ := ad
    simp only at hs; subst hs
    rw [add_none] at this
    rw [add_none, add_none, Nat.add_assoc]; exact this
  · have hj : j < n := by
      rcases Nat.lt_or_ge j n with h' | h'
      · exact h'
      · rw [List.getElem?_eq_none (by omega)] at hc; cases hc
    rw [h2 j hj] at hc
    have := hr.rel _ _ hc
    simpa [List.getD, List.getElem?_take_of_lt hj] using this

theorem rdEl_get {t : Ty} {xs : List (El t)} {i : Nat} (hi : i < xs.length) : xs[i]? = some (rdEl t xs i) := by
  simp [rdEl, List.getD, List.getElem?_eq_getElem hi]

theorem getD_ext {α : Type} (d : α) (vs : Array α) (j : Nat) : vs.getD j d = (vs[j]?).getD d := by simp

theorem readAt_sound (rel : HRel M B O x h u w) (hsub : ∀ i b, hr i = some b → h i = some b) {n : Nat} {a : IV} {A : Value} (ha : IVRel x w A a) {cs : List IC} (H : readAt hr n a = some cs) :
    ∃ ad us, A = .pointer (some ad) ∧ ad.spot = none ∧ cs.length = n ∧ Row x w ad cs us := by
  cases ha with
  | agg => simp [readAt] at H
  | tup => simp [readAt] at H
  | c A c hv =>
    cases hv with
    | v => simp [readAt] at H
    | junk => simp [readAt] at H
    | emp => simp [readAt] at H
    | sl => simp [readAt] at H
    | sref => simp [readAt] at H
    | view => simp [readAt] at H
    | mref => simp [readAt] at H
    | fn => simp [readAt] at H
    | ref id off q b hg hb =>
      simp only [readAt] at H
      cases hbx : hr id with
      | none => simp [hbx] at H
      | some bx =>
        cases bx with
        | arr => simp [hbx] at H
        | map => simp [hbx] at H
        | row => simp [hbx] at H
        | cells ty cs0 =>
          simp only [hbx] at H
          obtain ⟨q', hq', hbr⟩ := rel.box _ _ (hsub _ _ hbx)
          rw [hg] at hq'; injection hq' with hq'; subst hq'
          cases hbr with
          | cells _ _ b' vs e hq hw hs hrel =>
            rw [hb] at hq; injection hq with hq; subst hq
            have hrow : Row x w ⟨b, 0, none⟩ cs0 vs.toList := ⟨by simpa using hs, fun j v hv => by rw [add_none, Nat.zero_add, cell_of hw]; simpa using hv, fun j c hc => by have := hrel j c hc; simpa [List.getD] using this⟩
            have := hrow.cut H rfl
            rw [add_none, Nat.zero_add] at this
            exact ⟨_, _, rfl, rfl, (cut_get H).1, this⟩
        | ice ty cs0 =>
          simp only [hbx] at H
          obtain ⟨q', hq', hbr⟩ := rel.box _ _ (hsub _ _ hbx)
          rw [hg] at hq'; injection hq' with hq'; subst hq'
          cases hbr with
          | ice _ _ b' vs e hq hw hs hrel _ _ =>
            rw [hb] at hq; injection hq with hq; subst hq
            have hrow : Row x w ⟨b, 0, none⟩ cs0 vs.toList := ⟨by simpa using hs, fun j v hv => by rw [add_none, Nat.zero_add, cell_of hw]; simpa using hv, fun j c hc => by have := hrel j c hc; simpa [List.getD] using this⟩
            have := hrow.cut H rfl
            rw [add_none, Nat.zero_add] at this
            exact ⟨_, _, rfl, rfl, (cut_get H).1, this⟩
    | eref id wd i off q b hg hb hi =>
      simp only [readAt] at H
      cases hbx : hr id with
      | none => simp [hbx] at H
      | some bx =>
        cases bx with
        | cells => simp [hbx] at H
        | ice => simp [hbx] at H
        | map => simp [hbx] at H
        | row => simp [hbx] at H
        | arr ty t xs fr =>
          simp only [hbx] at H
          split at H
          · rename_i hwd
            obtain ⟨q', hq', hbr⟩ := rel.box _ _ (hsub _ _ hbx)
            rw [hg] at hq'; injection hq' with hq'; subst hq'
            cases hbr with
            | none _ _ _ h1 => rw [hb] at h1; cases h1
            | arr _ _ _ _ b' vs e hq hw hl hc hs hrel hfr =>
              rw [hb] at hq; injection hq with hq; subst hq
              have hix : i < xs.length := by omega
              have hlt : i * width t + width t ≤ vs.size := by
                rw [hs]
                have : (i + 1) * width t ≤ q.cap * width t := Nat.mul_le_mul_right _ (by omega)
                rw [Nat.add_mul] at this; omega
              have hrow : Row x w ⟨b, i * width t, none⟩ (enc t (rdEl t xs i)) ((vs.toList.drop (i * width t)).take (width t)) := by
                refine ⟨by rw [enc_length]; simp; omega, fun j v hv => ?_, fun j c hc => ?_⟩
                · have hj : j < width t := by
                    rcases Nat.lt_or_ge j (width t) with h' | h'
                    · exact h'
                    · rw [List.getElem?_eq_none (by simp; omega)] at hv; cases hv
                  rw [List.getElem?_take_of_lt hj, List.getElem?_drop] at hv
                  rw [add_none, cell_of hw]; simpa using hv
                · have hj : j < width t := by
                    have := enc_length t (rdEl t xs i)
                    rcases Nat.lt_or_ge j (width t) with h' | h'
                    · exact h'
                    · rw [List.getElem?_eq_none (by omega)] at hc; cases hc
                  have := hrel i _ (rdEl_get hix) j c hc
                  simpa [List.getD, List.getElem?_take_of_lt hj] using this
              have := hrow.cut H rfl
              rw [add_none, hwd] at this
              exact ⟨_, _, rfl, rfl, (cut_get H).1, this⟩
          · cases H
    | snap cs0 off b base rd hfree hcell hel =>
      simp only [readAt] at H
      have hrow : Row x w ⟨b, base, none⟩ cs0 ((List.range cs0.length).map rd) := by
        refine ⟨by simp, fun j v hv => ?_, fun j c hc => ?_⟩
        · have hj : j < cs0.length := by
            rcases Nat.lt_or_ge j cs0.length with h' | h'
            · exact h'
            · rw [List.getElem?_eq_none (by simp; omega)] at hv; cases hv
          simp [hj] at hv; subst hv
          rw [add_none]; exact (hcell j hj).2
        · have hj : j < cs0.length := by
            rcases Nat.lt_or_ge j cs0.length with h' | h'
            · exact h'
            · rw [List.getElem?_eq_none h'] at hc; cases hc
          simpa [List.getD, hj] using hel j c hc
      have := hrow.cut H rfl
      rw [add_none] at this
      exact ⟨_, _, rfl, rfl, (cut_get H).1, this⟩
    | psnap cs0 off b base rd hfree hcell hel =>
      simp only [readAt] at H
      have hrow : Row x w ⟨b, base, none⟩ cs0 ((List.range cs0.length).map rd) := by
        refine ⟨by simp, fun j v hv => ?_, fun j c hc => ?_⟩
        · have hj : j < cs0.length := by
            rcases Nat.lt_or_ge j cs0.length with h' | h'
            · exact h'
            · rw [List.getElem?_eq_none (by simp; omega)] at hv; cases hv
          simp [hj] at hv; subst hv
          rw [add_none]; exact (hcell j hj).2
        · have hj : j < cs0.length := by
            rcases Nat.lt_or_ge j cs0.length with h' | h'
            · exact h'
            · rw [List.getElem?_eq_none h'] at hc; cases hc
          simpa [List.getD, hj] using hel j c hc
      have := hrow.cut H rfl
      rw [add_none] at this
      exact ⟨_, _, rfl, rfl, (cut_get H).1, this⟩

theorem ivOfCells {cs : List IC} {us : List Value} (hl : us.length = cs.length) (hrel : ∀ j c, cs[j]? = some c → VRel x w (us.getD j undef) c) (agg : Bool) (h1 : agg = false → cs.length = 1) :
    IVRel x w (if agg then .agg us.toArray else us.getD 0 undef) (mkIV agg cs) := by
  cases agg with
  | true => exact .agg _ _ (by simpa using hl) fun j c hc => by simpa [List.getD] using hrel j c hc
  | false =>
    have h2 := h1 rfl
    match cs, h2 with
    | [c], _ => exact .c _ _ (hrel 0 c rfl)

theorem loadK_sound (hty : TyOK P cfg.ty) (rel : HRel M B O x h u w) (hsub : ∀ i b, hr i = some b → h i = some b) {t : Nat} {a : IV} {A : Value} (ha : IVRel x w A a)
    (H : loadK cfg hr k t a = some r) : ∃ out, k out = some r ∧ Step P M B O x h u w out (Instr.loadAt t A) := by
  unfold loadK at H
  obtain ⟨i, hi, H⟩ := bindK_some H
  obtain ⟨h1, H⟩ := need_some H
  obtain ⟨cs, hcs, H⟩ := bindK_some H
  obtain ⟨ad, us, rfl, hsp, hlen, hrow⟩ := readAt_sound rel hsub ha hcs
  refine ⟨_, H, Step.pure (v := if i.d.agg then .agg us.toArray else us.getD 0 undef) rel ?_ (ivOfCells hrow.len hrow.rel _ fun ha => by rw [hlen]; exact h1 ha)⟩
  have hT := hty _ _ hi
  simp only [Instr.loadAt, Instr.sureAddr, loadVar, Sem.run_bind, Sem.run_pure, Result.andThen_ok, hT.runAgg]
  cases hagg : i.d.agg with
  | true =>
    have h2 := run_loadCells_list (P := P) w ad us hrow.cell
    have h3 : us.length = i.size := by rw [hrow.len, hlen]
    rw [h3] at h2
    simp [hT.runSize, h2]
  | false =>
    have h2 := h1 hagg
    have hl : us.length = 1 := by rw [hrow.len, hlen, h2]
    match us, hl with
    | [v], _ =>
      have h3 := hrow.cell 0 v rfl
      have : ad.add 0 = ad := by simp [Addr.add]
      rw [this] at h3
      simp [h3]

end
end Go.Proofs.Ytdoilggfajngiaa.VE
