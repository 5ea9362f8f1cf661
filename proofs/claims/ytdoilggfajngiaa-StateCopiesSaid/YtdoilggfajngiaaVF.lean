/-
  Each operation of the ideal machine is the model's, continued: those that turn no memory.
-/
import Derived.Test.YtdoilggfajngiaaVE
import Derived.Laws.Strings
import Derived.Laws.Concat
namespace Go.Proofs.Ytdoilggfajngiaa.VE
open Go Go.RowKit

section
variable {P : Program} {cfg : Cfg} {M : Nat → Prop} {B key : Nat} {O : Nat → Nat → Prop} {x : Xs} {h hr : Nat → Option Box} {u : Nat → Bool} {w : World} {k : Out → R} {r : IV × List (Nat × Box)}

theorem iv_v {A : Value} {y : Value} (ha : IVRel x w A (.c (.v y))) : A = y ∧ A.oneCell' = true := by
  cases ha with
  | c _ _ h => cases h with | v _ h1 => exact ⟨rfl, h1⟩

theorem iv_c {A : Value} {y : IC} (ha : IVRel x w A (.c y)) : VRel x w A y := by
  cases ha with
  | c _ _ h => exact h

theorem vrel_int (K : IntKind) (n : Int) : IVRel x w (.int K n) (vi K n) := .c _ _ (.v _ rfl)
theorem vrel_bool (b : Bool) : IVRel x w (.bool b) (vb b) := .c _ _ (.v _ rfl)
theorem vrel_str (s : ByteArray) : IVRel x w (.string s) (vs s) := .c _ _ (.v _ rfl)

theorem TyOK.und (hty : TyOK P cfg.ty) {t : Nat} {d : D} (h : dOf cfg.ty t = some d) : ∃ d', P.underlying t = some d' ∧ DRel P t d' d := by
  obtain ⟨i, hi, rfl⟩ := dOf_some h
  exact (hty _ _ hi).und

theorem DRel.st {t : TypeId} {d : TypeDesc} {l : List (Nat × Nat)} (h : DRel P t d (.st l)) :
    ∃ fs, d = .struct fs ∧ fs.toList.map (fun f => (f.offset, f.type)) = l ∧ (∀ f, f ∈ fs.toList → f.name ≠ "_") ∧ P.eqGuardType P.depth t = false ∧ P.stoodInHeld t = false ∧ P.fieldsOf t = fs := by
  cases d <;> simp only [DRel] at h
  exact ⟨_, rfl, h⟩
theorem DRel.sl {t : TypeId} {d : TypeDesc} {e : Nat} (h : DRel P t d (.sl e)) : d = .slice e := by
  cases d <;> simp only [DRel] at h
  rw [h]
theorem DRel.ptr {t : TypeId} {d : TypeDesc} {e : Nat} (h : DRel P t d (.ptr e)) : d = .pointer e := by
  cases d <;> simp only [DRel] at h
  rw [h]
theorem DRel.arr {t : TypeId} {d : TypeDesc} {n e : Nat} (h : DRel P t d (.arr n e)) : d = .array n e := by
  cases d <;> simp only [DRel] at h
  rw [h.1, h.2]
theorem DRel.int {t : TypeId} {d : TypeDesc} {K : IntKind} (h : DRel P t d (.int K)) : d = .int K := by
  cases d <;> simp only [DRel] at h
  rw [h]
theorem DRel.bool {t : TypeId} {d : TypeDesc} (h : DRel P t d .bool) : d = .bool := by cases d <;> simp only [DRel] at h; rfl
theorem DRel.str {t : TypeId} {d : TypeDesc} (h : DRel P t d .str) : d = .string := by cases d <;> simp only [DRel] at h; rfl
theorem DRel.fnc {t : TypeId} {d : TypeDesc} (h : DRel P t d .fnc) : ∃ a b c, d = .func a b c := by cases d <;> simp only [DRel] at h; exact ⟨_, _, _, rfl⟩

theorem DRel.map {t : TypeId} {d : TypeDesc} {k e : Nat} (h : DRel P t d (.map k e)) : d = .map k e := by
  cases d <;> simp only [DRel] at h
  rw [h.1, h.2]

theorem pickIV_cases (t : Bool) (a b : IV) : (∃ p q, a = vb p ∧ b = vb q ∧ pickIV t a b = vb (cond t p q)) ∨ pickIV t a b = cond t a b := by
  unfold pickIV
  split
  · exact .inl ⟨_, _, rfl, rfl, rfl⟩
  · exact .inr rfl

theorem pickK_sound (rel : HRel M B O x h u w) {c a b : IV} {C A Bv : Value} (hc : IVRel x w C c) (ha : IVRel x w A a) (hb : IVRel x w Bv b) (H : pickK k c a b = some r) :
    ∃ out, k out = some r ∧ Step P M B O x h u w out (do pure (if ← asBool C then A else Bv)) := by
  unfold pickK at H
  split at H
  · rename_i t
    obtain ⟨rfl, _⟩ := iv_v hc
    refine ⟨_, H, Step.pure (v := if t = true then A else Bv) rel (by simp [asBool]) ?_⟩
    show IVRel x w _ (pickIV t a b)
    clear H
    rcases pickIV_cases t a b with ⟨p, q, rfl, rfl, e⟩ | e
    · rw [e]
      obtain ⟨rfl, _⟩ := iv_v ha
      obtain ⟨rfl, _⟩ := iv_v hb
      cases t <;> exact vrel_bool _
    · rw [e]
      cases t
      · exact hb
      · exact ha
  · cases H

theorem nilCheckK_sound {a : IV} {A : Value} (ha : IVRel x w A a) (H : nilCheckK k a = some r) :
    ∃ out, k out = some r ∧ out = ⟨a, [], []⟩ ∧ ((∃ ad, A = .pointer (some ad)) ∨ ∃ f caps, A = .func (.func f) #[] caps) := by
  unfold nilCheckK at H
  split at H
  · refine ⟨_, H, rfl, .inl ?_⟩
    cases ha with | c _ _ hv => cases hv with | ref => exact ⟨_, rfl⟩
  · refine ⟨_, H, rfl, .inl ?_⟩
    cases ha with | c _ _ hv => cases hv with | snap => exact ⟨_, rfl⟩
  · refine ⟨_, H, rfl, .inl ?_⟩
    cases ha with | c _ _ hv => cases hv with | psnap => exact ⟨_, rfl⟩
  · refine ⟨_, H, rfl, .inl ?_⟩
    cases ha with | c _ _ hv => cases hv with | eref => exact ⟨_, rfl⟩
  · refine ⟨_, H, rfl, .inr ?_⟩
    cases ha with | c _ _ hv => cases hv with | fn => exact ⟨_, _, rfl⟩
  · refine ⟨_, H, rfl, .inl ?_⟩
    obtain ⟨rfl, _⟩ := iv_v ha
    exact ⟨_, rfl⟩
  · cases H

theorem extractK_sound (rel : HRel M B O x h u w) {a : IV} {A : Value} (ha : IVRel x w A a) {i : Nat} (H : extractK k a i = some r) :
    ∃ out, k out = some r ∧ Step P M B O x h u w out (Instr.extract A i) := by
  unfold extractK at H
  cases ha with
  | c => cases H
  | agg => cases H
  | tup us vs hs hv =>
    obtain ⟨y, hy, H⟩ := bindK_some H
    have hlt : i < us.size := by
      rcases Nat.lt_or_ge i us.size with h' | h'
      · exact h'
      · rw [List.getElem?_eq_none (by omega)] at hy; cases hy
    exact ⟨_, H, Step.pure (v := us.getD i undef) rel (by simp [Instr.extract, hlt, Array.getD]) (hv _ _ hy)⟩

theorem makeFuncK_sound (rel : HRel M B O x h u w) {fn : Fn} {cap : List IV} {first caps : Array Value} (hs : caps.size = cap.length) (hc : ∀ j c, cap[j]? = some c → IVRel x w (caps.getD j undef) c)
    (H : makeFuncK k fn first.size cap = some r) : ∃ out, k out = some r ∧ Step P M B O x h u w out (Instr.makeFunc fn first caps) := by
  unfold makeFuncK at H
  cases fn with
  | func f =>
    obtain ⟨h1, H1⟩ := need_some H
    obtain ⟨cs, hcs, H2⟩ := bindK_some H1
    have hf : first = #[] := by simpa using h1
    clear H H1
    subst hf
    refine ⟨_, H2, Step.pure (v := .func (.func f) #[] caps) rel rfl (.c _ _ ?_)⟩
    have key : ∀ (cap : List IV) (cs : List IC), capsOf cap = some cs → cap = cs.map .c := by
      intro cap
      induction cap with
      | nil => intro cs h; simp [capsOf] at h; subst h; rfl
      | cons a l ih =>
        intro cs h
        cases a with
        | c y =>
          simp only [capsOf] at h
          cases hl : capsOf l with
          | none => simp [hl] at h
          | some l' => simp [hl] at h; subst h; simp [ih _ hl]
        | agg => simp [capsOf] at h
        | tup => simp [capsOf] at h
    have := key _ _ hcs
    subst this
    refine .fn f cs caps (by simpa using hs) fun j c hj => ?_
    exact iv_c (hc j (.c c) (by simp [hj]))
  | _ => cases H

theorem moved_sound {n : Nat} {a b : IV} {A : Value} (ha : IVRel x w A a) (H : moved n a = some b) : ∃ ad, A = .pointer (some ad) ∧ ad.spot = none ∧ IVRel x w (.pointer (some (ad.add n))) b := by
  cases ha with
  | agg => simp [moved] at H
  | tup => simp [moved] at H
  | c _ _ hv =>
    cases hv with
    | v V hone =>
      unfold moved at H
      split at H
      · rename_i e; cases e
      · rename_i e; cases e
      · rename_i e; cases e
      · rename_i e; cases e
      · rename_i b o e
        cases e
        injection H with H; subst H
        exact ⟨_, rfl, rfl, .c _ _ (by rw [add_none]; exact .v _ rfl)⟩
      · cases H
    | junk => simp [moved] at H
    | emp => simp [moved] at H
    | sl => simp [moved] at H
    | sref => simp [moved] at H
    | view => simp [moved] at H
    | mref => simp [moved] at H
    | fn => simp [moved] at H
    | ref id off q b hg hb =>
      simp only [moved] at H; injection H with H; subst H
      exact ⟨_, rfl, rfl, .c _ _ (by rw [add_none]; exact .ref _ _ q b hg hb)⟩
    | eref id wd i off q b hg hb hi =>
      simp only [moved] at H; injection H with H; subst H
      exact ⟨_, rfl, rfl, .c _ _ (by rw [add_none, Nat.add_assoc]; exact .eref _ _ _ _ q b hg hb hi)⟩
    | snap cs off b base rd hfree hcell hel =>
      simp only [moved] at H; injection H with H; subst H
      exact ⟨_, rfl, rfl, .c _ _ (by rw [add_none, Nat.add_assoc]; exact .snap _ _ b base rd hfree hcell hel)⟩
    | psnap cs off b base rd hfree hcell hel =>
      simp only [moved] at H; injection H with H; subst H
      exact ⟨_, rfl, rfl, .c _ _ (by rw [add_none, Nat.add_assoc]; exact .psnap _ _ b base rd hfree hcell hel)⟩

theorem fieldAddrK_sound (hty : TyOK P cfg.ty) (rel : HRel M B O x h u w) {t f : Nat} {a : IV} {A : Value} (ha : IVRel x w A a) (H : fieldAddrK cfg k t a f = some r) :
    ∃ out, k out = some r ∧ Step P M B O x h u w out (Instr.fieldAt t A f) := by
  unfold fieldAddrK at H
  split at H
  · rename_i fs hd
    obtain ⟨q, hq, H⟩ := bindK_some H
    obtain ⟨i, hi, H⟩ := bindK_some H
    obtain ⟨y, hy, H⟩ := bindK_some H
    obtain ⟨hpos, H⟩ := need_some H
    obtain ⟨d, h1, h2⟩ := hty.und hd
    obtain ⟨fs', rfl, h3, _⟩ := h2.st
    obtain ⟨ad, rfl, hsp, hrel⟩ := moved_sound ha hy
    refine ⟨_, H, Step.pure (v := .pointer (some (ad.add q.1))) rel ?_ hrel⟩
    have hf : ∃ fd, fs'[f]? = some fd ∧ (fd.offset, fd.type) = q := by
      rw [← h3, List.getElem?_map] at hq
      cases hfd : fs'.toList[f]? with
      | none => simp [hfd] at hq
      | some fd => simp [hfd] at hq; exact ⟨fd, by simpa using hfd, hq⟩
    obtain ⟨fd, hfd, rfl⟩ := hf
    have hT := hty _ _ hi
    simp only [Instr.fieldAt, Sem.run_bind, run_underlying h1, Result.andThen_ok, hfd, Instr.sureAddr, Sem.run_pure, fieldPlace, hT.runSize]
    rw [if_neg (by omega)]
    rfl
  · cases H

theorem fieldK_sound (hty : TyOK P cfg.ty) (rel : HRel M B O x h u w) {t f : Nat} {a : IV} {A : Value} (ha : IVRel x w A a) (H : fieldK cfg k t a f = some r) :
    ∃ out, k out = some r ∧ Step P M B O x h u w out (Instr.field t A f) := by
  unfold fieldK at H
  split at H
  · rename_i fs cs hd
    cases ha with
    | agg us _ hs hrel =>
      obtain ⟨q, hq, H1⟩ := bindK_some H
      obtain ⟨i, hi, H2⟩ := bindK_some H1
      obtain ⟨h1, H3⟩ := need_some H2
      obtain ⟨c, hc, H4⟩ := bindK_some H3
      clear H H1 H2 H3
      obtain ⟨d, hu, h2⟩ := hty.und hd
      obtain ⟨fs', rfl, h3, _⟩ := h2.st
      have hf : ∃ fd, fs'[f]? = some fd ∧ (fd.offset, fd.type) = q := by
        rw [← h3, List.getElem?_map] at hq
        cases hfd : fs'.toList[f]? with
        | none => simp [hfd] at hq
        | some fd => simp [hfd] at hq; exact ⟨fd, by simpa using hfd, hq⟩
      obtain ⟨fd, hfd, rfl⟩ := hf
      have hT := hty _ _ hi
      obtain ⟨hl, hg⟩ := cut_get hc
      have hle := (cut_some hc).1
      let l := (us.toList.drop fd.offset).take i.size
      have hll : l.length = c.length := by simp [l, hl]; omega
      have hlrel : ∀ j y, c[j]? = some y → VRel x w (l.getD j undef) y := by
        intro j y hy
        have hj : j < i.size := by
          rcases Nat.lt_or_ge j i.size with h' | h'
          · exact h'
          · rw [List.getElem?_eq_none (by omega)] at hy; cases hy
        rw [hg j hj] at hy
        have := hrel _ _ hy
        simpa [l, List.getD, List.getElem?_take_of_lt hj] using this
      refine ⟨_, H4, Step.pure (v := if i.d.agg then .agg l.toArray else l.getD 0 undef) rel ?_ (ivOfCells hll hlrel _ fun ha => by rw [hl]; exact h1 ha)⟩
      simp only [Instr.field, Sem.run_bind, run_underlying hu, Result.andThen_ok, hfd, asAgg, Sem.run_pure]
      rw [hT.runPart us fd.offset w (by omega) h1]
      cases hagg : i.d.agg with
      | true =>
        have : us.extract fd.offset (fd.offset + i.size) = l.toArray := by
          apply Array.ext'
          simp [l]
        simp [this]
      | false =>
        have hi1 := h1 hagg
        have : us.getD fd.offset undef = l.getD 0 undef := by
          have h0 : l[0]? = us[fd.offset]? := by
            simp only [l]
            rw [List.getElem?_take_of_lt (by omega), List.getElem?_drop]
            simp
          simp [List.getD, h0]
        simp [this]
  · cases H

end
end Go.Proofs.Ytdoilggfajngiaa.VE
