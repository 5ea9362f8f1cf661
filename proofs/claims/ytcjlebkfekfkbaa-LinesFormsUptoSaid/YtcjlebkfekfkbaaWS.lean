/-
  What is of small bulk is small in all.
-/
import Derived.Test.YtcjlebkfekfkbaaVY
import Derived.Test.YtcjlebkfekfkbaaRows
import Derived.JoinedCond
namespace Go.Proofs.Ytcjlebkfekfkbaa.VE
open Go Go.RowKit Go.ChangeShapes

/-- How much there is, each byte and each piece counted. -/
def szE : (t : Ty) → El t → Nat
  | .int _, _ => 1
  | .bool, _ => 1
  | .str, s => (show ByteArray from s).size + 1
  | .sl t, xs => ((show List (El t) from xs).map (szE t)).sum + 1
  | .prod a b, x => szE a x.1 + szE b x.2
  | .pint _, _ => 1
def wfS : (t : Ty) → El t → Prop
  | .int k, n => k.min ≤ n ∧ n ≤ k.max
  | .bool, _ => True
  | .str, _ => True
  | .sl t, xs => ∀ e, e ∈ (show List (El t) from xs) → wfS t e
  | .prod a b, x => wfS a x.1 ∧ wfS b x.2
  | .pint _, _ => True
def szEs : (ps : List (Bool × Ty)) → Els ps → Nat
  | [], _ => 0
  | p :: r, x => szE p.2 x.1 + szEs r x.2
def wfsS : (ps : List (Bool × Ty)) → Els ps → Prop
  | [], _ => True
  | p :: r, x => wfS p.2 x.1 ∧ wfsS r x.2

section
variable {H : Type} {en : TypeId × Value → H} {P : Program} {w W : World} {base : Nat} {sp : Nat → Bool} {held : Bool}

theorem sum_range {Q : Type} (f : Nat → Nat) : ∀ (l : List (DataW H × Q)) (off : Nat), (∀ i y, l[i]? = some y → f (off + i) ≤ Rows.uptoBulk y.1) → ((List.range' off l.length).map f).sum ≤ Rows.uptoBulkAll (l.map (·.1))
  | [], off, _ => Nat.zero_le _
  | y :: l, off, h => by
    have h0 := h 0 y rfl
    have h1 := sum_range f l (off + 1) fun i y' hy => by
      have := h (i + 1) y' (by simpa using hy)
      rwa [show off + (i + 1) = off + 1 + i by omega] at this
    simp only [List.length_cons, List.range'_succ, List.map_cons, List.sum_cons, Rows.uptoBulkAll]
    exact Nat.add_le_add h0 h1

theorem open_fs2 {n : Nat} {recB : Nat → Ty → Bool} (ih : ∀ (t : Nat) (τ : Ty) (cs : List Value) (x : DataW H × List MemPlace), DataW.trod en P w base sp held n t cs = some x → recB t τ = true → ∃ e : El τ, (wfS τ e ∧ szE τ e ≤ Rows.uptoBulk x.1) ∧ Told w τ e cs) {cs : List Value} :
    ∀ (fs : List Field) (off : Nat) (τ : Ty) (xs : List (DataW H × List MemPlace)), fitFs P recB fs off τ = true → xs.length = fs.length →
      (∀ (i : Nat) (f : Field), fs[i]? = some f → DataW.trod en P w base sp held n f.type ((cs.drop f.offset).take (P.cellsOf f.type)) = xs[i]?) →
      ∃ e : El τ, (wfS τ e ∧ szE τ e ≤ Rows.uptoBulkAll (xs.map (·.1))) ∧ Told w τ e ((cs.drop off).take (width τ))
  | [], off, τ, xs, h, _, _ => by simp [fitFs] at h
  | [f], off, τ, xs, h, hl, hx => by
    have h' : (Nat.beq f.offset off && Nat.beq (P.cellsOf f.type) (width τ) && recB f.type τ) = true := by
      cases τ <;> exact h
    simp only [Bool.and_eq_true] at h'
    obtain ⟨⟨h1, h2⟩, h3⟩ := h'
    match xs, hl with
    | [x], _ =>
      have := hx 0 f rfl
      rw [Nat.eq_of_beq_eq_true h1, Nat.eq_of_beq_eq_true h2] at this
      obtain ⟨e, ⟨w1, s1⟩, t1⟩ := ih _ _ _ x this h3
      exact ⟨e, ⟨w1, s1⟩, t1⟩
  | f :: g :: fs, off, .prod a b, xs, h, hl, hx => by
    simp only [fitFs, Bool.and_eq_true] at h
    obtain ⟨⟨⟨h1, h2⟩, h3⟩, h4⟩ := h
    match xs, hl with
    | x :: xs, hl =>
      have h0 := hx 0 f rfl
      rw [Nat.eq_of_beq_eq_true h1, Nat.eq_of_beq_eq_true h2] at h0
      obtain ⟨e1, ⟨w1, s1⟩, l1, r1⟩ := ih _ _ _ x h0 h3
      obtain ⟨e2, ⟨w2, s2⟩, l2, r2⟩ := open_fs2 ih (g :: fs) (off + width a) b xs h4 (by simpa using hl) (fun i f' hf => by simpa using hx (i + 1) f' (by simpa using hf))
      refine ⟨(e1, e2), ⟨⟨w1, w2⟩, Nat.add_le_add s1 s2⟩, ?_, fun j c hc => ?_⟩
      · have k1 : ((cs.drop off).take (width a)).length = width a := l1
        have k2 : ((cs.drop (off + width a)).take (width b)).length = width b := l2
        simp only [List.length_take, List.length_drop, width] at *
        omega
      · have k1 : ((cs.drop off).take (width a)).length = width a := l1
        simp only [enc] at hc
        by_cases hj : j < width a
        · rw [List.getElem?_append_left (by rw [enc_length]; exact hj)] at hc
          have := r1 j c hc
          have e : ((cs.drop off).take (width (.prod a b))).getD j undef = ((cs.drop off).take (width a)).getD j undef := by
            have : j < width a + width b := by omega
            simp only [List.getD, List.getElem?_take, width, if_pos hj, if_pos this]
          rw [e]; exact this
        · rw [List.getElem?_append_right (by rw [enc_length]; omega), enc_length] at hc
          have hjb : j - width a < width b := by
            have := (List.getElem?_eq_some_iff.1 hc).1
            rwa [enc_length] at this
          have := r2 (j - width a) c hc
          have e : ((cs.drop off).take (width (.prod a b))).getD j undef = ((cs.drop (off + width a)).take (width b)).getD (j - width a) undef := by
            have h5 : j < width a + width b := by omega
            simp only [List.getD, List.getElem?_take, width, if_pos hjb, if_pos h5, List.getElem?_drop]
            congr 2
            omega
          rw [e]; exact this
  | f :: g :: fs, off, .int _, xs, h, _, _ => by simp [fitFs] at h
  | f :: g :: fs, off, .bool, xs, h, _, _ => by simp [fitFs] at h
  | f :: g :: fs, off, .str, xs, h, _, _ => by simp [fitFs] at h
  | f :: g :: fs, off, .sl _, xs, h, _, _ => by simp [fitFs] at h

theorem open_ty2 : ∀ (m fuel t : Nat) (τ : Ty) (cs : List Value) (x : DataW H × List MemPlace), DataW.trod en P w base sp held fuel t cs = some x → fitB P m t τ = true → ∃ e : El τ, (wfS τ e ∧ szE τ e ≤ Rows.uptoBulk x.1) ∧ Told w τ e cs
  | 0, _, _, _, _, _, _, h => by simp [fitB] at h
  | m + 1, fuel, t, τ, cs, x, hx, hf => by
    have ih := open_ty2 m
    unfold fitB at hf
    split at hf
    · rename_i k k' hu
      obtain ⟨n, rfl, rfl, hwf⟩ := DataW.trod_int hu hx
      have : k = k' := of_decide_eq_true hf
      subst this
      have h2 : k.min ≤ n ∧ n ≤ k.max := by simpa [Lit.wf] using hwf
      refine ⟨n, ⟨h2, (show (1 : Nat) ≤ _ by simp [Rows.uptoBulk])⟩, rfl, fun j c hc => ?_⟩
      cases j with
      | zero => simp [enc] at hc; subst hc; exact .v _ rfl
      | succ j => simp [enc] at hc
    · rename_i hu
      obtain ⟨b, rfl, rfl⟩ := DataW.trod_bool hu hx
      refine ⟨b, ⟨trivial, (show (1 : Nat) ≤ _ by simp [Rows.uptoBulk])⟩, rfl, fun j c hc => ?_⟩
      cases j with
      | zero => simp [enc] at hc; subst hc; exact .v _ rfl
      | succ j => simp [enc] at hc
    · rename_i hu
      obtain ⟨s, rfl, rfl, _⟩ := DataW.trod_string hu hx
      refine ⟨s, ⟨trivial, (show s.size + 1 ≤ _ by simp [Rows.uptoBulk])⟩, rfl, fun j c hc => ?_⟩
      cases j with
      | zero => simp [enc] at hc; subst hc; exact .v _ rfl
      | succ j => simp [enc] at hc
    · rename_i e τ' hu
      simp only [Bool.and_eq_true] at hf
      obtain ⟨⟨f1, f2⟩, f3⟩ := hf
      have hce : P.cellsOf e = width τ' := Nat.eq_of_beq_eq_true f1
      have hby : bytesTy τ' ≤ P.bytesOf e := Nat.le_of_ble_eq_true f2
      rcases DataW.trod_slice hu hx with ⟨rfl, rfl⟩ | ⟨a, len, cap, elems, rest, n, _, rfl, rfl, hb, hl, hm, hlen, hel, _, _⟩
      · refine ⟨([] : List (El τ')), ⟨fun e he => (by cases he), (show (1 : Nat) ≤ _ by simp [Rows.uptoBulk])⟩, rfl, fun j c hc => ?_⟩
        cases j with
        | zero =>
          simp [enc] at hc; subst hc
          exact .sl τ' [] none 0 (fun _ _ => undef) (Nat.le_refl _) (fun _ => rfl) (fun i hi => absurd hi (by simp)) (fun i e hi => by simp at hi)
        | succ j => simp [enc] at hc
      · have each : ∀ i, i < len → ∃ (ce : List Value) (y : DataW H × List MemPlace), w.cells? base (a.add (i * width τ')) (width τ') = some ce ∧ elems[i]? = some y ∧ DataW.trod en P w base sp held n e ce = some y := by
          intro i hi
          have h1 := hel i hi
          have h2 : elems[i]? = some elems[i] := List.getElem?_eq_getElem (by omega)
          rw [h2, Option.bind_eq_some_iff, hce] at h1
          obtain ⟨ce, c1, c2⟩ := h1
          exact ⟨ce, elems[i], c1, h2, c2⟩
        have each2 : ∀ i, i < len → ∃ (q : List Value × El τ'), w.cells? base (a.add (i * width τ')) (width τ') = some q.1 ∧ (wfS τ' q.2 ∧ ∀ y, elems[i]? = some y → szE τ' q.2 ≤ Rows.uptoBulk y.1) ∧ Told w τ' q.2 q.1 := by
          intro i hi
          obtain ⟨ce, y, c1, c2, c3⟩ := each i hi
          obtain ⟨el, ⟨w1, s1⟩, t1⟩ := ih n e τ' ce y c3 f3
          exact ⟨(ce, el), c1, ⟨w1, fun y' hy' => by rw [c2] at hy'; cases hy'; exact s1⟩, t1⟩
        obtain ⟨q, hq⟩ := Classical.axiomOfChoice (r := fun (i : Nat) (q : List Value × El τ') => i < len → w.cells? base (a.add (i * width τ')) (width τ') = some q.1 ∧ (wfS τ' q.2 ∧ ∀ y, elems[i]? = some y → szE τ' q.2 ≤ Rows.uptoBulk y.1) ∧ Told w τ' q.2 q.1) (fun i => by
          by_cases hi : i < len
          · obtain ⟨q, hq⟩ := each2 i hi
            exact ⟨q, fun _ => hq⟩
          · exact ⟨([], dflt τ'), fun h => absurd h hi⟩)
        refine ⟨(List.range len).map fun i => (q i).2, ⟨fun el hel' => ?_, ?_⟩, rfl, fun j c hc => ?_⟩
        · obtain ⟨i, hi, rfl⟩ := List.mem_map.1 hel'
          exact (hq i (List.mem_range.1 hi)).2.1.1
        · have hs := sum_range (fun i => szE τ' (q i).2) elems 0 fun i y hy => by
            have hi : i < len := by rw [← hlen]; exact (List.getElem?_eq_some_iff.1 hy).1
            rw [Nat.zero_add]
            exact (hq i hi).2.1.2 y hy
          rw [hlen, ← List.range_eq_range'] at hs
          show (((List.range len).map fun i => (q i).2).map (szE τ')).sum + 1 ≤ _
          rw [List.map_map]
          simp only [Rows.uptoBulk]
          exact Nat.add_le_add_right (Nat.le_trans hs (Nat.le_add_right _ _)) 1
        · cases j with
          | succ j => simp [enc] at hc
          | zero =>
            simp [enc] at hc; subst hc
            have hcells : ∀ i, i < len → ∀ j, j < width τ' → w.cell? ((a.add (i * width τ')).add j) = some ((q i).1.getD j undef) := fun i hi j hj => by
              obtain ⟨c1, _, t1, _⟩ := hq i hi
              obtain ⟨_, _, k3⟩ := World.cells?_some c1
              rw [k3 j hj]
              have : j < (q i).1.length := by rw [t1]; exact hj
              simp [List.getD, List.getElem?_eq_getElem this]
            have hspot : 0 < len → a.spot = none := fun h0 => by
              have := (spot_of_cell (hcells 0 h0 0 (width_pos τ'))).1
              simpa [Addr.add] using this
            have haddr : 0 < len → ∀ i j, (a.add (i * width τ')).add j = ⟨a.block, a.off + (i * width τ' + j), none⟩ := fun h0 i j => by
              have hs := hspot h0
              obtain ⟨ab, ao, asp⟩ := a
              simp only at hs
              subst hs
              simp only [Addr.add]
              split <;> split <;> simp_all <;> omega
            have hll : ((List.range len).map fun i => (q i).2).length = len := by simp
            have key : VRel (outside (all0 w) w) w (.slice (some a) ((List.range len).map fun i => (q i).2).length cap) (.sl τ' ((List.range len).map fun i => (q i).2)) := by
              refine .sl τ' _ (some a) cap (fun i j => (q i).1.getD j undef) (by rw [hll]; exact hl) (fun h => by cases h) (fun i hi j hj => ?_) (fun i e' hi j c hc => ?_)
              · rw [hll] at hi
                have h0 : 0 < len := by omega
                have hc1 := hcells i hi j hj
                refine ⟨a, rfl, hspot h0, ?_, ?_⟩
                · have := (spot_of_cell hc1).2
                  rw [haddr h0] at this
                  exact this
                · rw [← haddr h0]; exact hc1
              · have hi' : i < len := by
                  have := (List.getElem?_eq_some_iff.1 hi).1
                  simpa using this
                have : e' = (q i).2 := by
                  simp only [List.getElem?_map, List.getElem?_range hi', Option.map_some, Option.some.injEq] at hi
                  exact hi.symm
                subst this
                exact (hq i hi').2.2.2 j c hc
            rw [hll] at key
            exact key
    · rename_i τ _ _ fs hu
      simp only [Bool.and_eq_true] at hf
      obtain ⟨f1, f2⟩ := hf
      obtain ⟨xs, n, _, rfl, hlen, hxl, hfx⟩ := DataW.trod_struct hu hx
      have hct : P.cellsOf t = width τ := Nat.eq_of_beq_eq_true f1
      obtain ⟨e, ⟨w1, s1⟩, t1⟩ := open_fs2 (fun t τ cs x h1 h2 => ih n t τ cs x h1 h2) (cs := cs) fs.toList 0 τ xs f2 (by simpa using hxl) (fun i f hf => hfx i f (by simpa using hf))
      refine ⟨e, ⟨w1, Nat.le_succ_of_le s1⟩, ?_⟩
      rw [hct] at hlen
      have : (cs.drop 0).take (width τ) = cs := by rw [List.drop_zero, ← hlen, List.take_length]
      rw [this] at t1
      exact t1
    · cases hf


theorem open_one2 {t : Nat} {p : Bool × Ty} {v : Value} {d : DataW H} {ps : List MemPlace} (hd : DataW.Trod en P W 0 (fun _ => true) true t v d ps) (hf : fitB P 24 t p.2 = true) (ha : p.1 = isStruct P t)
    (hval : Value.okWide P W .any base t v) : ∃ e : El p.2, (wfS p.2 e ∧ szE p.2 e ≤ Rows.uptoBulk d) ∧ IVRel (outside (all0 W) W) W v (mkIV p.1 (enc p.2 e)) := by
  obtain ⟨fuel, hd⟩ := hd
  obtain ⟨e, w1, l1, r1⟩ := open_ty2 24 fuel t p.2 v.cells.toList (d, ps) hd hf
  refine ⟨e, w1, ?_⟩
  obtain ⟨b, τ⟩ := p
  simp only at *
  subst ha
  have hone : isStruct P t = false → (∀ cs, v ≠ .agg cs) ∧ width τ = 1 := by
    intro hs
    unfold fitB at hf
    unfold isStruct at hs
    unfold Value.okWide at hval
    split at hf
    · rename_i k k' hu
      simp only [hu] at hval
      refine ⟨fun cs h => ?_, rfl⟩
      subst h
      simp [Cell.okWide, Cell.ok, hu] at hval
    · rename_i hu
      simp only [hu] at hval
      refine ⟨fun cs h => ?_, rfl⟩
      subst h
      simp [Cell.okWide, Cell.ok, hu] at hval
    · rename_i hu
      simp only [hu] at hval
      refine ⟨fun cs h => ?_, rfl⟩
      subst h
      simp [Cell.okWide, Cell.ok, hu] at hval
    · rename_i e' τ' hu
      simp only [hu] at hval
      refine ⟨fun cs h => ?_, rfl⟩
      subst h
      simp [Cell.okWide, Cell.ok, hu] at hval
    · rename_i fs hu
      rw [hu] at hs
      cases hs
    · cases hf
  cases hs : isStruct P t with
  | false =>
    obtain ⟨h1, h2⟩ := hone hs
    have hc : v.cells = #[v] := by cases v <;> first | rfl | exact absurd rfl (h1 _)
    have hl : (enc τ e).length = 1 := by rw [enc_length, h2]
    obtain ⟨c, hcc⟩ := List.length_eq_one_iff.1 hl
    have := r1 0 c (by rw [hcc]; rfl)
    rw [hc] at this
    rw [hcc]
    exact .c _ _ (by simpa using this)
  | true =>
    have hag : ∃ cs, v = .agg cs := by
      unfold isStruct at hs
      unfold Value.okWide at hval
      split at hs
      · rename_i fs hu
        simp only [hu] at hval
        obtain ⟨cs, rfl, _⟩ := hval
        exact ⟨cs, rfl⟩
      · cases hs
    obtain ⟨cs, rfl⟩ := hag
    have hcs : (Value.agg cs).cells = cs := rfl
    rw [hcs] at l1 r1
    refine .agg cs _ (by rw [enc_length]; simpa using l1) fun j c hc => ?_
    have := r1 j c hc
    simpa [List.getD, Array.getD_eq_getD_getElem?] using this

theorem open_all2 : ∀ (ts : List Nat) (ps : List (Bool × Ty)) (vs : List Value) (ds : List (DataW H)) (q : List MemPlace), DataW.TrodAll en P W 0 (fun _ => true) true ts vs ds q → fitsB P ts ps = true →
    (∀ (j : Nat) t v, ts[j]? = some t → vs[j]? = some v → Value.okWide P W .any base t v) →
    ∃ x : Els ps, (wfsS ps x ∧ szEs ps x ≤ Rows.uptoBulkAll ds) ∧ vs.length = ps.length ∧ ∀ j c, (ivs ps x)[j]? = some c → IVRel (outside (all0 W) W) W (vs.getD j undef) c
  | [], ps, vs, ds, q, h, hf, _ => by
    obtain ⟨rfl, rfl, rfl⟩ := trodAll_nil h
    cases ps with
    | nil => exact ⟨(), ⟨trivial, Nat.zero_le _⟩, rfl, fun j c hc => (by simp [ivs] at hc)⟩
    | cons => simp [fitsB] at hf
  | t :: ts, ps, vs, ds, q, h, hf, hval => by
    obtain ⟨v, vs1, d, ds1, a, b, rfl, rfl, rfl, h1, h2⟩ := trodAll_cons h
    cases ps with
    | nil => simp [fitsB] at hf
    | cons p ps =>
      simp only [fitsB, Bool.and_eq_true, beq_iff_eq] at hf
      obtain ⟨⟨⟨⟨f1, f2⟩, f3⟩, f4⟩, f5⟩ := hf
      obtain ⟨e, ⟨w1, s1⟩, r1⟩ := open_one2 h1 f1 f2 (hval 0 t v rfl rfl)
      obtain ⟨x, ⟨w2, s2⟩, l2, r2⟩ := open_all2 ts ps vs1 ds1 b h2 f5 (fun j t' v' ht hv => hval (j + 1) t' v' (by simpa using ht) (by simpa using hv))
      refine ⟨(e, x), ⟨⟨w1, w2⟩, Nat.add_le_add s1 s2⟩, by simp [l2], fun j c hc => ?_⟩
      cases j with
      | zero => simp [ivs] at hc; subst hc; exact r1
      | succ j => exact r2 j c (by simpa [ivs] using hc)

end

theorem law_small {C : Checked} {os : Os} {H : Type} {en : TypeId × Value → H} (own : ownKnob C.prog.godebug = none) (started : os.Started) (hl : laidOutB C.prog = true) {f : FuncId} {fn : Func} (noInit : C.prog.inits.idxOf? f = none)
    (hf : C.prog.funcs[f]? = some fn) {s : OpenSpec} {k : (H : Type) → List (DataW H) → Bool} (hk : s.cond = some k) {F : Stop.Interp} {apart fresh handsOn again : Bool} {ps : List (Bool × Ty)} {tb : Nat} (hfit : fitsB C.prog fn.params.toList ps = true) (hres : fn.resultTypes = #[tb])
    (htb : C.prog.underlying tb = some .bool) (hvars : s.vars = []) (hvars2 : (s.at F).vars = []) (hfn : ∀ (H : Type) (ds : List (DataW H)), ds.length = ps.length → (s.at F).fn H ds = { results := [.lit (.bool true)], args := ds })
    (witness : ∃ (w : World) (tape : Tape) (i : Input), w.os = os ∧ (w.forCall tape i).Shaped C.prog ∧ i.vars = [] ∧ Input.okWide C.prog (w.forCall tape i) .any w.heap.size f i ∧
      s.pre6 en C.prog fn [] apart (w.forCall tape i).memory i.args ∧ ({} : Assume).holds C.prog (lone (Frame.enter C.prog f i.args .normal) [] (w.forCall tape i)))
    (RB : Nat) (hbulk : ∀ (ds : List (DataW H)), k H ds = true → Rows.uptoBulkAll ds ≤ RB)
    (hrun : ∀ x : Els ps, wfsS ps x → szEs ps x ≤ RB → Returns C.prog f (ivs ps x) (vb true)) (htab : tabCells = [] := by rfl) :
    ReturnsInHanded {} C os f .any (s.pre6 en C.prog fn [] apart) ((s.at F).post en C.prog fn apart fresh handsOn again) := by
  refine returnsInHanded_of_cond hk own started noInit hf witness ?_
  intro W base args ds gs before hval hW _ hkk _
  have hgs : gs = [] := by
    obtain ⟨p, q, _, hV, _⟩ := hW
    rw [hvars] at hV
    cases gs with
    | nil => rfl
    | cons => exact hV.elim
  subst hgs
  rw [List.append_nil] at hkk
  have hW0 : DataW.Whole en C.prog fn.params.toList (s.at F).vars apart W args.toList ds [] before := by
    rw [hvars2]; rw [hvars] at hW; exact hW
  obtain ⟨p, q, hA, hV, _⟩ := hW
  obtain ⟨x, ⟨w1, s1⟩, l1, r1⟩ := open_all2 fn.params.toList ps args.toList ds p hA hfit (fun j t v ht hv => hval j t v (by simpa using ht) (by simpa using hv))
  have hds : ds.length = ps.length := by
    have : ∀ (ts : List Nat) (vs : List Value) (ds : List (DataW H)) (q : List MemPlace), DataW.TrodAll en C.prog W 0 (fun _ => true) true ts vs ds q → ds.length = vs.length := by
      intro ts
      induction ts with
      | nil => intro vs ds q h; obtain ⟨rfl, rfl, rfl⟩ := trodAll_nil h; rfl
      | cons t ts ih => intro vs ds q h; obtain ⟨v, vs1, d, ds1, a, b, rfl, rfl, rfl, h1, h2⟩ := trodAll_cons h; simp [ih _ _ _ h2]
    rw [this _ _ _ _ hA, l1]
  refine (hrun x w1 (Nat.le_trans s1 (hbulk ds hkk)) W args (all0 W) (fun b o h => h) (fun p hp => by rw [htab] at hp; cases hp) (by rw [ivs_length, ← l1]; simp) (fun j c hc => ?_)).mono fun e W' ⟨v, he, hb, hv⟩ => ?_
  · have := r1 j c hc
    simpa [List.getD, Array.getD_eq_getD_getElem?] using this
  · obtain ⟨hv', _⟩ := iv_v hv
    subst hv'
    exact ⟨_, he, post_of_below hl hvars2 (hfn H ds hds) hfit hres htb hW0 hb⟩

end Go.Proofs.Ytcjlebkfekfkbaa.VE
