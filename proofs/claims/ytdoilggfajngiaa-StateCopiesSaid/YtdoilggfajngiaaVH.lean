/-
  Each operation of the ideal machine is the model's, continued: those that make memory or write the activation's own.
-/
import Derived.Test.YtdoilggfajngiaaVG
namespace Go.Proofs.Ytdoilggfajngiaa.VE
open Go Go.RowKit

section
variable {P : Program} {cfg : Cfg} {M : Nat → Prop} {B key : Nat} {O : Nat → Nat → Prop} {x : Xs} {h hr : Nat → Option Box} {u : Nat → Bool} {w : World} {k : Out → R} {r : IV × List (Nat × Box)}

theorem IVRel.celled {A : Value} {a : IV} (ha : IVRel x w A a) (hc : celled a = true) :
    A.cells.size = (cellsOf a).length ∧ ∀ j y, (cellsOf a)[j]? = some y → VRel x w (A.cells.getD j undef) y := by
  refine ha.cells (by cases a <;> first | rfl | (simp [VE.celled] at hc)) fun y hy => ?_
  subst hy
  refine (iv_c ha).one ?_
  cases y <;> first | rfl | (simp [VE.celled] at hc)

theorem splice_length : ∀ (cs : List IC) (off : Nat) (ys : List IC), (splice cs off ys).length = cs.length
  | _, 0, [] => by simp [splice]
  | [], 0, _ :: _ => rfl
  | [], _ + 1, _ => by simp [splice]
  | _ :: cs, 0, y :: ys => by simp [splice, splice_length cs 0 ys]
  | c :: cs, n + 1, ys => by simp [splice, splice_length cs n ys]

theorem splice_get : ∀ (cs : List IC) (off : Nat) (ys : List IC) (j : Nat), off + ys.length ≤ cs.length →
    (splice cs off ys)[j]? = if j < off then cs[j]? else if j < off + ys.length then ys[j - off]? else cs[j]?
  | cs, 0, [], j, _ => by simp [splice]
  | [], 0, y :: ys, j, h => by simp at h
  | [], n + 1, ys, j, h => by simp at h
  | c :: cs, 0, y :: ys, j, h => by
    simp only [List.length_cons] at h
    cases j with
    | zero => simp [splice]
    | succ j =>
      have := splice_get cs 0 ys j (by omega)
      simp only [splice, List.getElem?_cons_succ, this, Nat.not_lt_zero, if_false, Nat.zero_add, List.length_cons, Nat.sub_zero]
      by_cases h1 : j < ys.length
      · rw [if_pos h1, if_pos (by omega)]
      · rw [if_neg h1, if_neg (by omega)]
  | c :: cs, n + 1, ys, j, h => by
    simp only [List.length_cons] at h
    cases j with
    | zero => simp [splice]
    | succ j =>
      have := splice_get cs n ys j (by omega)
      simp only [splice, List.getElem?_cons_succ, this]
      by_cases h1 : j < n
      · rw [if_pos h1, if_pos (show j + 1 < n + 1 by omega)]
      · rw [if_neg h1, if_neg (show ¬ j + 1 < n + 1 by omega)]
        by_cases h2 : j < n + ys.length
        · rw [if_pos h2, if_pos (show j + 1 < n + 1 + ys.length by omega), Nat.add_sub_add_right]
        · rw [if_neg h2, if_neg (show ¬ j + 1 < n + 1 + ys.length by omega)]

/-- A write into cells, told. -/
theorem wr_rel {vs : Array Value} {cs ys : List IC} {off : Nat} {l : List Value} (hs : vs.size = cs.length) (hl : l.length = ys.length) (hle : off + ys.length ≤ cs.length)
    (h1 : ∀ j c, cs[j]? = some c → VRel x w (vs.getD j undef) c) (h2 : ∀ j c, ys[j]? = some c → VRel x w (l.getD j undef) c) :
    ∀ j c, (splice cs off ys)[j]? = some c → VRel x w ((wr vs off l).getD j undef) c := by
  intro j c hc
  rw [splice_get cs off ys j hle] at hc
  rw [getD_ext, wr_get l vs off j (by omega), hl]
  split at hc
  · rename_i h3; rw [if_pos h3]; have := h1 j c hc; rwa [getD_ext] at this
  · rename_i h3
    rw [if_neg h3]
    split at hc
    · rename_i h4; rw [if_pos h4]; have := h2 _ c hc; simpa [List.getD] using this
    · rename_i h4; rw [if_neg h4]; have := h1 j c hc; rwa [getD_ext] at this

theorem allocK_sound (hty : TyOK P cfg.ty) (rel : HRel M B O x h u w) {t : Nat} (H : allocK cfg key k t = some r) :
    ∃ out, k out = some r ∧ ((∀ i, i ∈ out.news → u i = false) → Step P M B O x h u w out (Instr.alloc t true (.tuple #[]))) := by
  unfold allocK at H
  obtain ⟨i, hi, H1⟩ := bindK_some H
  obtain ⟨hzl, H2⟩ := need_some H1
  split at H2
  · rename_i p hp
    refine ⟨_, H2, fun hf => ?_⟩
    have hk : u key = false := hf key (by simp)
    obtain ⟨z, hz, hs, hzc, hone⟩ := (hty _ _ hi).runZero
    obtain ⟨m, e⟩ := p
    have hall : i.size = m ∧ i.zero.all isFalseC = true := by
      unfold boolArr at hp
      split at hp
      · split at hp
        · rename_i m' e' _ _ _
          cases hb : (Nat.ble 16 m' && (Nat.beq i.size m' && i.zero.all isFalseC))
          · rw [hb] at hp; cases hp
          · rw [hb] at hp
            cases hp
            simp only [Bool.and_eq_true] at hb
            exact ⟨Nat.eq_of_beq_eq_true hb.2.1, hb.2.2⟩
        · cases hp
      · cases hp
    obtain ⟨hm, hfa⟩ := hall
    have hsz : z.cells.size = m := by
      rw [hzc, List.length_map] at hzl
      rw [← hm, ← hzl]; simp
    have hcell : ∀ j, j < m → z.cells.getD j undef = .bool false := fun j hj => by
      have hlt : j < z.cells.toList.length := by simp; omega
      have hmem : IC.v (z.cells.toList[j]) ∈ i.zero := by rw [hzc]; exact List.mem_map.2 ⟨_, List.getElem_mem hlt, rfl⟩
      have h1 := List.all_eq_true.1 hfa _ hmem
      have h2 : z.cells.getD j undef = z.cells.toList[j] := by rw [getD_ext]; simp at hlt; simp [hlt]
      rw [h2]
      generalize z.cells.toList[j] = c at h1
      cases c <;> simp [isFalseC] at h1
      rw [h1]
    refine ⟨.pointer (some ⟨w.heap.size, 0, none⟩), w.alloc (.cells z.cells t), x.new key ⟨some w.heap.size, m, m⟩, ?_, Ext.alloc rel hk _ _, Fr.alloc _ rel.big _, ?_, ?_⟩
    · simp [Instr.alloc, hz, newVar, newRow]
    · refine rel.alloc hk z.cells t m m _ (.arr _ _ _ _ w.heap.size z.cells t rfl (heap_alloc_new _ _) (by simp) (by simp) (by rw [hsz]; show m = m * 1; omega) (fun a el hel j c hc => ?_) (fun h => by cases h))
      have ha := (List.getElem?_eq_some_iff.1 hel).1
      rw [List.length_replicate] at ha
      rw [List.getElem?_replicate, if_pos ha] at hel
      cases hel
      cases j with
      | zero =>
        simp [enc] at hc
        subst hc
        rw [show a * width .bool + 0 = a by show a * 1 + 0 = a; omega, hcell a ha]
        exact .v _ rfl
      | succ j => simp [enc] at hc
    · exact .c _ _ (.ref key 0 _ w.heap.size (upd_same _ _ _) rfl)
  refine ⟨_, H2, fun hf => ?_⟩
  have hk : u key = false := hf key (by simp)
  obtain ⟨z, hz, hs, hzc, hone⟩ := (hty _ _ hi).runZero
  refine ⟨.pointer (some ⟨w.heap.size, 0, none⟩), w.alloc (.cells z.cells t), x.new key ⟨some w.heap.size, 0, 0⟩, ?_, Ext.alloc rel hk _ _, Fr.alloc _ rel.big _, ?_, ?_⟩
  · simp [Instr.alloc, hz, newVar, newRow]
  · refine rel.alloc hk z.cells t 0 0 _ (.cells _ _ w.heap.size z.cells t rfl (heap_alloc_new _ _) (by rw [hzc]; simp) ?_)
    intro j c hc
    rw [hzc, List.getElem?_map] at hc
    cases hj : z.cells.toList[j]? with
    | none => simp [hj] at hc
    | some v =>
      simp [hj] at hc; subst hc
      have : z.cells.getD j undef = v := by rw [getD_ext]; simp at hj; simp [hj]
      rw [this]
      exact .v _ (hone _ (List.mem_of_getElem? hj))
  · exact .c _ _ (.ref key 0 _ w.heap.size (upd_same _ _ _) rfl)

theorem boxK_sound (rel : HRel M B O x h u w) {t : Nat} {a : IV} {A : Value} (ha : IVRel x w A a) (H : boxK key k t a = some r) :
    ∃ out, k out = some r ∧ ((∀ i, i ∈ out.news → u i = false) → Step P M B O x h u w out (Instr.box t A)) := by
  unfold boxK at H
  obtain ⟨hc, H1⟩ := need_some H
  refine ⟨_, H1, fun hf => ?_⟩
  have hk : u key = false := hf key (by simp)
  obtain ⟨hs, hv⟩ := ha.celled hc
  have he := Ext.alloc rel hk ⟨some w.heap.size, 0, 0⟩ (.cells A.cells t)
  refine ⟨.pointer (some ⟨w.heap.size, 0, none⟩), w.alloc (.cells A.cells t), x.new key ⟨some w.heap.size, 0, 0⟩, ?_, he, Fr.alloc _ rel.big _, ?_, ?_⟩
  · simp [Instr.box, newVar, newRow]
  · exact rel.alloc hk A.cells t 0 0 _ (.cells _ _ w.heap.size A.cells t rfl (heap_alloc_new _ _) hs fun j c hj => (hv j c hj).ext he)
  · exact .c _ _ (.ref key 0 _ w.heap.size (upd_same _ _ _) rfl)

/-! ### a struct out of parts -/

theorem foldl_zipIdx_wr : ∀ (l : List Value) (vs : Array Value) (off n : Nat), (l.zipIdx n).foldl (fun cs (p : Value × Nat) => cs.setIfInBounds (off + p.2) p.1) vs = wr vs (off + n) l
  | [], _, _, _ => rfl
  | v :: l, vs, off, n => by
    rw [List.zipIdx_cons, List.foldl_cons, foldl_zipIdx_wr l _ off (n + 1), wr]
    rfl

theorem fill_step (place : Nat → Option (Nat × Nat)) (cells : Array Value) (i off sz : Nat) (v : Value) (rest : List (Nat × Value)) (hp : place i = some (off, sz)) (hs : v.cells.size = sz) (hl : off + sz ≤ cells.size) :
    Instr.fill place cells ((i, v) :: rest) = Instr.fill place (wr cells off v.cells.toList) rest := by
  have : v.cells.zipIdx.foldl (fun cs (p : Value × Nat) => cs.setIfInBounds (off + p.2) p.1) cells = wr cells off v.cells.toList := by
    rw [← Array.foldl_toList, Array.toList_zipIdx]
    exact foldl_zipIdx_wr _ _ off 0
  rw [Instr.fill, hp]
  simp only [hs]
  rw [if_neg (by simp; omega)]
  exact congrArg (fun z => Instr.fill place z rest) this

theorem buildParts_sound (place : Nat → Option (Nat × Nat)) (ps : List (Nat × Nat)) (hp : ∀ i q, ps[i]? = some q → place i = some q) : ∀ (ix : List Nat) (xs : List IV) (us : List Value) (cs : List IC) (vs : Array Value) (cs' : List IC),
    ix.length = xs.length → us.length = xs.length → vs.size = cs.length → (∀ j c, cs[j]? = some c → VRel x w (vs.getD j undef) c) → (∀ j y, xs[j]? = some y → IVRel x w (us.getD j undef) y ∧ celled y = true) →
    buildParts ps cs (ix.zip xs) = some cs' → ∃ vs', Instr.fill place vs (ix.zip us) = some vs' ∧ vs'.size = cs'.length ∧ ∀ j c, cs'[j]? = some c → VRel x w (vs'.getD j undef) c
  | [], xs, us, cs, vs, cs', h1, h2, hs, hr, _, H => by
    match xs, h1 with
    | [], _ => simp [buildParts] at H; subst H; exact ⟨vs, by simp [Instr.fill], hs, hr⟩
  | i :: ix, xs, us, cs, vs, cs', h1, h2, hs, hr, ha, H => by
    match xs, us, h1, h2 with
    | y :: xs, v :: us, h1, h2 =>
      simp only [List.zip_cons_cons, buildParts] at H
      cases hq : ps[i]? with
      | none => simp [hq] at H
      | some q =>
        obtain ⟨off, sz⟩ := q
        simp only [hq] at H
        split at H
        · rename_i hc
          obtain ⟨hy, hyc⟩ := ha 0 y rfl
          obtain ⟨e1, e2⟩ := hy.celled hyc
          simp only [List.getD_cons_zero] at e1 e2
          have hsz : v.cells.size = sz := by rw [e1]; exact hc.1
          rw [List.zip_cons_cons, fill_step place vs i off sz v _ (hp _ _ hq) hsz (by omega)]
          refine buildParts_sound place ps hp ix xs us _ _ cs' (by simpa using h1) (by simpa using h2) (by rw [wr_size, splice_length, hs]) ?_ (fun j y hj => by simpa using ha (j + 1) y (by simpa using hj)) H
          exact wr_rel hs (by simpa using e1) (by omega) hr fun j c hj => by simpa [List.getD] using e2 j c hj
        · cases H

theorem run_places (hty : TyOK P cfg.ty) : ∀ (fs : List Field) (ps : List (Nat × Nat)), places cfg.ty (fs.map fun f => (f.offset, f.type)) = some ps →
    (fs.mapM (m := Sem) fun f => do pure (f.offset, ← sizeOf f.type)).run P w = .ok ps w
  | [], ps, H => by simp [places] at H; subst H; rfl
  | f :: fs, ps, H => by
    simp only [List.map_cons, places] at H
    cases hi : cfg.ty f.type with
    | none => simp [hi] at H
    | some i =>
      cases hl : places cfg.ty (fs.map fun f => (f.offset, f.type)) with
      | none => simp [hi, hl] at H
      | some l =>
        simp [hi, hl] at H; subst H
        have ih := run_places hty fs l hl
        rw [List.mapM_cons, Sem.run_bind, Sem.run_bind, (hty _ _ hi).runSize]
        simp only [Result.andThen_ok, Sem.run_pure, Sem.run_bind]
        rw [ih]
        rfl

theorem zipIvs (ix : List Nat) (parts : Array (Nat × Operand)) (ρ : Operand → Value) (hix : ix = parts.toList.map (·.1)) :
    (parts.map fun p => (p.1, ρ p.2)).toList = ix.zip (parts.toList.map fun p => ρ p.2) := by
  subst hix
  simp only [Array.toList_map]
  induction parts.toList with
  | nil => rfl
  | cons a l ih => simp [ih]

theorem buildK_sound (hty : TyOK P cfg.ty) (rel : HRel M B O x h u w) {t : Nat} {parts : Array (Nat × Operand)} {ρ : Operand → Value} {xs : List IV}
    (hl : xs.length = parts.size) (ha : ∀ j y, xs[j]? = some y → IVRel x w ((parts.toList.map fun p => ρ p.2).getD j undef) y)
    (H : buildK cfg k t (parts.toList.map (·.1)) xs = some r) : ∃ out, k out = some r ∧ Step P M B O x h u w out (Instr.build t (parts.map fun p => (p.1, ρ p.2))) := by
  unfold buildK at H
  obtain ⟨i, hi, H1⟩ := bindK_some H
  split at H1
  · rename_i fs hd
    obtain ⟨ps, hps, H2⟩ := bindK_some H1
    obtain ⟨⟨_, hall⟩, H3⟩ := need_some H2
    obtain ⟨cs, hcs, H4⟩ := bindK_some H3
    have hT := hty _ _ hi
    obtain ⟨z, hz, hs, hzc, hone⟩ := hT.runZero
    obtain ⟨d, hu, hdr⟩ := hT.und
    rw [hd] at hdr
    obtain ⟨fs', rfl, h3, _⟩ := hdr.st
    subst h3
    obtain ⟨vs', hf, hsz, hrel⟩ := buildParts_sound (x := x) (w := w) (fun j => ps.toArray[j]?) ps (fun j q hq => by simpa using hq) (parts.toList.map (·.1)) xs (parts.toList.map fun p => ρ p.2) i.zero z.cells cs
      (by simp [hl]) (by simp [hl]) (by rw [hzc]; simp) (fun j c hj => by
        rw [hzc, List.getElem?_map] at hj
        cases hj' : z.cells.toList[j]? with
        | none => simp [hj'] at hj
        | some v =>
          simp [hj'] at hj; subst hj
          have : z.cells.getD j undef = v := by rw [getD_ext]; simp at hj'; simp [hj']
          rw [this]
          exact .v _ (hone _ (List.mem_of_getElem? hj'))) (fun j y hj => ⟨ha j y hj, by simpa using List.all_eq_true.1 hall y (List.mem_of_getElem? hj)⟩) hcs
    refine ⟨_, H4, Step.pure (v := .agg vs') rel ?_ (.agg _ _ hsz hrel)⟩
    have hm : (fs'.mapM (m := Sem) fun f => do pure (f.offset, ← sizeOf f.type)).run P w = .ok ps.toArray w := by
      rw [Array.mapM_eq_mapM_toList, Sem.run_map, run_places hty _ _ hps]
      rfl
    simp only [Instr.build, Sem.run_bind, hz, Result.andThen_ok, run_underlying hu, hm]
    rw [zipIvs _ parts ρ rfl, hf]
    rfl
  · rename_i n e hd
    obtain ⟨ie, hie, H2⟩ := bindK_some H1
    obtain ⟨⟨_, hall⟩, H3⟩ := need_some H2
    obtain ⟨cs, hcs, H4⟩ := bindK_some H3
    have hT := hty _ _ hi
    have hTe := hty _ _ hie
    obtain ⟨z, hz, hs, hzc, hone⟩ := hT.runZero
    obtain ⟨d, hu, hdr⟩ := hT.und
    rw [hd] at hdr
    have hds := hdr.arr; subst hds
    obtain ⟨vs', hf, hsz, hrel⟩ := buildParts_sound (x := x) (w := w) (fun j => some (j * ie.size, ie.size)) _ (fun j q hq => by
      rw [List.getElem?_map] at hq
      cases hj : (List.range n)[j]? with
      | none => simp [hj] at hq
      | some j' =>
        simp [hj] at hq
        have : j' = j := by
          have := List.getElem?_eq_some_iff.1 hj
          obtain ⟨h1, h2⟩ := this
          simpa using h2.symm
        subst this
        simp [hq]) (parts.toList.map (·.1)) xs (parts.toList.map fun p => ρ p.2) i.zero z.cells cs
      (by simp [hl]) (by simp [hl]) (by rw [hzc]; simp) (fun j c hj => by
        rw [hzc, List.getElem?_map] at hj
        cases hj' : z.cells.toList[j]? with
        | none => simp [hj'] at hj
        | some v =>
          simp [hj'] at hj; subst hj
          have : z.cells.getD j undef = v := by rw [getD_ext]; simp at hj'; simp [hj']
          rw [this]
          exact .v _ (hone _ (List.mem_of_getElem? hj'))) (fun j y hj => ⟨ha j y hj, by simpa using List.all_eq_true.1 hall y (List.mem_of_getElem? hj)⟩) hcs
    refine ⟨_, H4, Step.pure (v := .agg vs') rel ?_ (.agg _ _ hsz hrel)⟩
    simp only [Instr.build, Sem.run_bind, hz, Result.andThen_ok, run_underlying hu, hTe.runSize]
    rw [zipIvs _ parts ρ rfl, hf]
    rfl
  · cases H1

end
end Go.Proofs.Ytdoilggfajngiaa.VE
