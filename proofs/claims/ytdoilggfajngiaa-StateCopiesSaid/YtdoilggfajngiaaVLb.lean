/-
  Each operation of the ideal machine is the model's, continued: maps.
-/
import Derived.Test.YtdoilggfajngiaaVLa
namespace Go.Proofs.Ytdoilggfajngiaa.VE
open Go Go.RowKit

section
variable {P : Program} {cfg : Cfg} {M : Nat → Prop} {B key : Nat} {O : Nat → Nat → Prop} {x : Xs} {h hr : Nat → Option Box} {u : Nat → Bool} {w : World} {k : Out → R} {r : IV × List (Nat × Box)}

/-! ### keys -/

theorem scalar_val {d : D} {t : Ty} (hs : scalarTy d t = true) (e : El t) : flatVals t e = [valOf t e] ∧ enc t e = [.v (valOf t e)] ∧ width t = 1 ∧ d.agg = false ∧ (valOf t e).oneCell' = true ∧ (valOf t e).cells = #[valOf t e] := by
  unfold scalarTy at hs
  split at hs
  · exact ⟨rfl, rfl, rfl, rfl, rfl, rfl⟩
  · exact ⟨rfl, rfl, rfl, rfl, rfl, rfl⟩
  · exact ⟨rfl, rfl, rfl, rfl, rfl, rfl⟩
  · cases hs

theorem keyFs_flat : ∀ (fs : List (Nat × Nat)) (i : Nat) (t : Ty), keyFs cfg.ty i fs t = true → ∀ (e : El t), enc t e = (flatVals t e).map IC.v ∧ (flatVals t e).length = width t ∧ ∀ v, v ∈ flatVals t e → v.oneCell' = true
  | [], i, t, H, e => by simp [keyFs] at H
  | [(o, t')], i, t, H, e => by
    simp only [keyFs, Bool.and_eq_true] at H
    obtain ⟨_, H⟩ := H
    split at H
    · obtain ⟨h1, h2, h3, _, h5, _⟩ := scalar_val H e
      rw [h1, h2, h3]
      exact ⟨rfl, rfl, fun v hv => by simp at hv; subst hv; exact h5⟩
    · cases H
  | (o, t') :: p :: r, i, t, H, e => by
    cases t with
    | prod a b =>
      simp only [keyFs, Bool.and_eq_true] at H
      obtain ⟨_, H1, H2⟩ := H
      split at H1
      · obtain ⟨h1, h2, h3, _, h5, _⟩ := scalar_val H1 e.1
        obtain ⟨g1, g2, g3⟩ := keyFs_flat (p :: r) (i + 1) b H2 e.2
        refine ⟨?_, ?_, ?_⟩
        · show enc a e.1 ++ enc b e.2 = (flatVals a e.1 ++ flatVals b e.2).map IC.v
          rw [g1, h1, h2]; simp
        · show (flatVals a e.1 ++ flatVals b e.2).length = width a + width b
          rw [List.length_append, g2, h1, h3]; rfl
        · intro v hv
          have hv : v ∈ flatVals a e.1 ++ flatVals b e.2 := hv
          rw [h1] at hv
          simp only [List.singleton_append, List.mem_cons] at hv
          rcases hv with rfl | hv
          · exact h5
          · exact g3 v hv
      · cases H1
    | _ => simp [keyFs] at H

theorem eqC_scalar {t : Nat} {τ : Ty} {d : D} (hd : dOf cfg.ty t = some d) (hs : scalarTy d τ = true) (a b : El τ) : eqC (dOf cfg.ty t) (.v (valOf τ a)) (.v (valOf τ b)) = some (eqEl τ a b) := by
  rw [hd]
  unfold scalarTy at hs
  split at hs
  · have := of_decide_eq_true hs; subst this; simp [eqC, valOf, eqEl]
  · simp [eqC, valOf, eqEl]
  · simp [eqC, valOf, eqEl]
  · cases hs

theorem eqFields_el : ∀ (fs : List (Nat × Nat)) (i : Nat) (t : Ty), keyFs cfg.ty i fs t = true → ∀ (a b : El t) (p q : List IC), p.length = i → q.length = i → eqFields cfg.ty fs (p ++ enc t a) (q ++ enc t b) = some (eqEl t a b)
  | [], i, t, H, _, _, _, _, _, _ => by simp [keyFs] at H
  | [(o, t')], i, t, H, a, b, p, q, hp, hq => by
    simp only [keyFs, Bool.and_eq_true] at H
    obtain ⟨h1, H⟩ := H
    have h1 := Nat.eq_of_beq_eq_true h1
    subst h1
    split at H
    · rename_i d hd
      obtain ⟨_, e1, _⟩ := scalar_val H a
      obtain ⟨_, e2, _⟩ := scalar_val H b
      have g1 : (p ++ enc t a)[o]? = some (.v (valOf t a)) := by rw [e1, List.getElem?_append_right (by omega), hp]; simp
      have g2 : (q ++ enc t b)[o]? = some (.v (valOf t b)) := by rw [e2, List.getElem?_append_right (by omega), hq]; simp
      simp only [eqFields, g1, g2, eqC_scalar hd H a b, Bool.and_true]
    · cases H
  | (o, t') :: z :: r, i, t, H, a, b, p, q, hp, hq => by
    cases t with
    | prod s t2 =>
      simp only [keyFs, Bool.and_eq_true] at H
      obtain ⟨h1, H1, H2⟩ := H
      have h1 := Nat.eq_of_beq_eq_true h1
      subst h1
      split at H1
      · rename_i d hd
        obtain ⟨_, e1, _⟩ := scalar_val H1 a.1
        obtain ⟨_, e2, _⟩ := scalar_val H1 b.1
        have f1 : p ++ enc (.prod s t2) a = (p ++ [.v (valOf s a.1)]) ++ enc t2 a.2 := by
          show p ++ (enc s a.1 ++ enc t2 a.2) = _
          rw [e1, List.append_assoc]
        have f2 : q ++ enc (.prod s t2) b = (q ++ [.v (valOf s b.1)]) ++ enc t2 b.2 := by
          show q ++ (enc s b.1 ++ enc t2 b.2) = _
          rw [e2, List.append_assoc]
        rw [f1, f2]
        have g1 : ((p ++ [.v (valOf s a.1)]) ++ enc t2 a.2)[o]? = some (.v (valOf s a.1)) := by rw [List.getElem?_append_left (by simp [hp]), List.getElem?_append_right (by omega), hp]; simp
        have g2 : ((q ++ [.v (valOf s b.1)]) ++ enc t2 b.2)[o]? = some (.v (valOf s b.1)) := by rw [List.getElem?_append_left (by simp [hq]), List.getElem?_append_right (by omega), hq]; simp
        have ih := eqFields_el (z :: r) (o + 1) t2 H2 a.2 b.2 (p ++ [.v (valOf s a.1)]) (q ++ [.v (valOf s b.1)]) (by simp [hp]) (by simp [hq])
        rw [eqFields]
        simp only [g1, g2, eqC_scalar hd H1 a.1 b.1, ih]
        rfl
      · cases H1
    | _ => simp [keyFs] at H

/-- A key of plain data, and how two are told apart. -/
theorem key_agg {kt : Nat} {fs : List (Nat × Nat)} {s t : Ty} (hty : TyOK P cfg.ty) (hkd : dOf cfg.ty kt = some (.st fs)) (hf : keyFs cfg.ty 0 fs (.prod s t) = true) (a b : El (.prod s t)) :
    (Op.equal kt (valOf (.prod s t) a) (valOf (.prod s t) b)).run P w = .ok (eqEl (.prod s t) a b) w := by
  obtain ⟨d', hu, hdr⟩ := hty.und hkd
  obtain ⟨fs', rfl, h3, h4, h5, h6, h7⟩ := hdr.st
  have he := eqFields_el fs 0 _ hf a b [] [] rfl rfl
  obtain ⟨e1, l1, o1⟩ := keyFs_flat fs 0 _ hf a
  obtain ⟨e2, l2, o2⟩ := keyFs_flat fs 0 _ hf b
  simp only [List.nil_append] at he
  subst h3
  have hr : ∀ (e : El (.prod s t)), enc (.prod s t) e = (flatVals (.prod s t) e).map IC.v → (∀ v, v ∈ flatVals (.prod s t) e → v.oneCell' = true) → ∀ (j : Nat) (c : IC), (enc (.prod s t) e)[j]? = some c → VRel ((⟨fun _ => none, fun _ _ => False, fun _ _ => False⟩ : Xs)) w ((flatVals (.prod s t) e).toArray.getD j undef) c := by
    intro e he h1 j c hc
    rw [he, List.getElem?_map] at hc
    cases hj : (flatVals (.prod s t) e)[j]? with
    | none => rw [hj] at hc; cases hc
    | some v =>
      rw [hj] at hc
      injection hc with hc
      subst hc
      have : (flatVals (.prod s t) e).toArray.getD j undef = v := by simp [Array.getD_eq_getD_getElem?, hj]
      rw [this]
      exact .v v (h1 v (List.mem_of_getElem? hj))
  have h8 := eqFields_sound (P := P) (x := (⟨fun _ => none, fun _ _ => False, fun _ _ => False⟩ : Xs)) (w := w) hty fs'.toList (enc (.prod s t) a) (enc (.prod s t) b) (flatVals (.prod s t) a).toArray (flatVals (.prod s t) b).toArray (eqEl (.prod s t) a b) (by rw [enc_length, List.size_toArray, l1]) (by rw [enc_length, List.size_toArray, l2])
    (hr a e1 o1) (hr b e2 o2) h4 he
  show (Op.equalIn 10000 kt (.agg (flatVals (.prod s t) a).toArray) (.agg (flatVals (.prod s t) b).toArray)).run P w = _
  rw [run_equalIn_agg w 9999 kt _ _ (by rw [h7]; exact hu) h6, h7]; exact h8

theorem equal_scalar {kt : Nat} {kd : D} {κ : Ty} (hty : TyOK P cfg.ty) (hkd : dOf cfg.ty kt = some kd) (hs : scalarTy kd κ = true) (a b : El κ) : (Op.equal kt (valOf κ a) (valOf κ b)).run P w = .ok (eqEl κ a b) w := by
  obtain ⟨d', hu, hdr⟩ := hty.und hkd
  unfold scalarTy at hs
  split at hs
  · have := of_decide_eq_true hs; subst this
    have := hdr.int; subst this
    exact run_equalIn_int w 9999 kt _ _ a b hu
  · have := hdr.bool; subst this
    exact run_equalIn_bool w 9999 kt a b hu
  · have := hdr.str; subst this
    exact run_equalIn_string w 9999 kt a b hu
  · cases hs

theorem key_equal {kt : Nat} {kd : D} {κ : Ty} (hty : TyOK P cfg.ty) (hkd : dOf cfg.ty kt = some kd) (hf : keyFits cfg.ty kd κ = true) (a b : El κ) : (Op.equal kt (valOf κ a) (valOf κ b)).run P w = .ok (eqEl κ a b) w := by
  unfold keyFits at hf
  split at hf
  · exact key_agg hty hkd hf a b
  · exact equal_scalar hty hkd hf a b

theorem eqEl_eq : ∀ (t : Ty) {a b : El t}, eqEl t a b = true → a = b
  | .int _, a, b, h => by simpa [eqEl] using h
  | .bool, a, b, h => by simpa [eqEl] using h
  | .str, a, b, h => by
    have h : (ByteArray.toList a == ByteArray.toList b) = true := h
    have h := eq_of_beq h
    rw [ByteArray.toList_eq, ByteArray.toList_eq] at h
    exact congrArg ByteArray.mk (Array.toList_inj.1 h)
  | .prod s t, a, b, h => by
    simp only [eqEl, Bool.and_eq_true] at h
    exact Prod.ext (eqEl_eq s h.1) (eqEl_eq t h.2)
  | .sl _, a, b, h => by simp [eqEl] at h
  | .pint _, a, b, h => by simp [eqEl] at h
  | .addr, a, b, h => by simp [eqEl] at h

theorem keyFs_mem : ∀ (fs : List (Nat × Nat)) (i : Nat) (t : Ty), keyFs cfg.ty i fs t = true → ∀ p, p ∈ fs → p.1 < i + width t ∧ ∃ d τ, dOf cfg.ty p.2 = some d ∧ scalarTy d τ = true
  | [], i, t, H, p, hp => by cases hp
  | [(o, t')], i, t, H, p, hp => by
    simp only [keyFs, Bool.and_eq_true] at H
    obtain ⟨h1, H⟩ := H
    have h1 := Nat.eq_of_beq_eq_true h1
    simp only [List.mem_singleton] at hp
    subst hp
    split at H
    · rename_i d hd
      have := width_pos t
      exact ⟨by simp only; omega, d, t, hd, H⟩
    · cases H
  | (o, t') :: z :: r, i, t, H, p, hp => by
    cases t with
    | prod s t2 =>
      simp only [keyFs, Bool.and_eq_true] at H
      obtain ⟨h1, H1, H2⟩ := H
      have h1 := Nat.eq_of_beq_eq_true h1
      have hws := width_pos s
      have hw : width (.prod s t2) = width s + width t2 := rfl
      rcases List.mem_cons.1 hp with hp | hp
      · subst hp
        split at H1
        · rename_i d hd
          exact ⟨by simp only; omega, d, s, hd, H1⟩
        · cases H1
      · obtain ⟨g1, g2⟩ := keyFs_mem (z :: r) (i + 1) t2 H2 p hp
        exact ⟨by omega, g2⟩
    | _ => simp [keyFs] at H

theorem checkKey_scalar {t : Nat} {d : D} {τ : Ty} (hty : TyOK P cfg.ty) (hd : dOf cfg.ty t = some d) (hs : scalarTy d τ = true) (em : Bool) (n : Nat) (v : Value) : (Instr.checkKey em (n + 1) t v).run P w = .ok () w := by
  obtain ⟨d', hu, hdr⟩ := hty.und hd
  have : (∃ K, d' = .int K) ∨ d' = .bool ∨ d' = .string := by
    unfold scalarTy at hs
    split at hs
    · exact .inl ⟨_, hdr.int⟩
    · exact .inr (.inl hdr.bool)
    · exact .inr (.inr hdr.str)
    · cases hs
  rw [Instr.checkKey, Sem.run_bind, run_underlying hu, Result.andThen_ok]
  rcases this with ⟨K, rfl⟩ | rfl | rfl <;> rfl

theorem key_check {kt : Nat} {kd : D} {κ : Ty} (hty : TyOK P cfg.ty) (hkd : dOf cfg.ty kt = some kd) (hf : keyFits cfg.ty kd κ = true) (a : El κ) (em : Bool) : (Instr.checkKey em 10000 kt (valOf κ a)).run P w = .ok () w := by
  unfold keyFits at hf
  split at hf
  · rename_i fs s t
    obtain ⟨d', hu, hdr⟩ := hty.und hkd
    obtain ⟨fs', rfl, h3, h4, h5, h6, h7⟩ := hdr.st
    obtain ⟨_, l1, o1⟩ := keyFs_flat fs 0 _ hf a
    have hm := keyFs_mem fs 0 _ hf
    subst h3
    show (Instr.checkKey em (9999 + 1) kt (.agg (flatVals (.prod s t) a).toArray)).run P w = _
    rw [Instr.checkKey, Sem.run_bind, run_underlying hu, Result.andThen_ok]
    simp only
    have hz : (flatVals (.prod s t) a).toArray.size = width (.prod s t) := by rw [List.size_toArray, l1]
    generalize (flatVals (.prod s t) a).toArray = cs at hz
    have loop : ∀ (l : List Field), (∀ f, f ∈ l → f ∈ fs'.toList) → ∀ z : PUnit, (forIn (m := Sem) l z fun f r => (do
        if f.name ≠ "_" then do
          let y ← part f.type cs f.offset
          Instr.checkKey em 9999 f.type y
          pure (ForInStep.yield PUnit.unit)
        else pure (ForInStep.yield PUnit.unit) : Sem (ForInStep PUnit))).run P w = .ok PUnit.unit w := by
      intro l
      induction l with
      | nil => intro _ z; simp
      | cons f l ih =>
        intro hl z
        obtain ⟨g1, d, τ, g2, g3⟩ := hm (f.offset, f.type) (List.mem_map.2 ⟨f, hl f (by simp), rfl⟩)
        have hp : (part f.type cs f.offset).run P w = .ok (cs.getD f.offset undef) w := by
          obtain ⟨i, hi, hid⟩ := dOf_some g2
          have hag : i.d.agg = false := by
            rw [hid]
            unfold scalarTy at g3
            split at g3 <;> first | rfl | cases g3
          have hlt : f.offset < cs.size := by rw [hz]; simpa using g1
          unfold part
          rw [Sem.run_bind, (hty _ _ hi).runAgg, Result.andThen_ok, hag]
          simp [Array.getD, hlt]
        simp only [List.forIn_cons, Sem.run_bind]
        rw [if_pos (h4 f (hl f (by simp)))]
        simp only [Sem.run_bind, hp, Result.andThen_ok, checkKey_scalar hty g2 g3 em 9998, Sem.run_pure]
        exact ih (fun f' hf' => hl f' (by simp [hf'])) _
    have := loop fs'.toList (fun _ h => h) PUnit.unit
    simp only [Sem.run_bind, ← Array.forIn_toList]
    exact (congrArg (fun z : Result PUnit => z.andThen fun _ w' => Sem.run P (pure ()) w') this).trans rfl
  · exact checkKey_scalar hty hkd hf em 9999 _

/-- A value of one cell that is plain. -/
def Atom (v : Value) : Prop := (∃ K z, v = .int K z) ∨ (∃ z, v = .bool z) ∨ ∃ z, v = .string z

theorem Atom.bits {v : Value} (hv : Atom v) (n : Nat) : Instr.sameBits n v v = true := by
  rcases hv with ⟨K, z, rfl⟩ | ⟨z, rfl⟩ | ⟨z, rfl⟩ <;> cases n <;> simp [Instr.sameBits, beq_toListBytes]

theorem scalar_atom {d : D} {t : Ty} (hs : scalarTy d t = true) (e : El t) : Atom (valOf t e) := by
  unfold scalarTy at hs
  split at hs
  · exact .inl ⟨_, _, rfl⟩
  · exact .inr (.inl ⟨_, rfl⟩)
  · exact .inr (.inr ⟨_, rfl⟩)
  · cases hs

theorem keyFs_atom : ∀ (fs : List (Nat × Nat)) (i : Nat) (t : Ty), keyFs cfg.ty i fs t = true → ∀ (e : El t) (v : Value), v ∈ flatVals t e → Atom v
  | [], i, t, H, e, v, hv => by simp [keyFs] at H
  | [(o, t')], i, t, H, e, v, hv => by
    simp only [keyFs, Bool.and_eq_true] at H
    obtain ⟨_, H⟩ := H
    split at H
    · rw [(scalar_val H e).1] at hv
      simp at hv; subst hv
      exact scalar_atom H e
    · cases H
  | (o, t') :: p :: r, i, t, H, e, v, hv => by
    cases t with
    | prod a b =>
      simp only [keyFs, Bool.and_eq_true] at H
      obtain ⟨_, H1, H2⟩ := H
      split at H1
      · have hv : v ∈ flatVals a e.1 ++ flatVals b e.2 := hv
        rcases List.mem_append.1 hv with hv | hv
        · rw [(scalar_val H1 e.1).1] at hv
          simp at hv; subst hv
          exact scalar_atom H1 e.1
        · exact keyFs_atom (p :: r) (i + 1) b H2 e.2 v hv
      · cases H1
    | _ => simp [keyFs] at H

theorem key_stays {kd : D} {κ : Ty} (hf : keyFits cfg.ty kd κ = true) (a : El κ) : (Instr.keyThatStays (valOf κ a) (valOf κ a)).run P w = .ok (valOf κ a) w := by
  have hs : Instr.sameBits 10000 (valOf κ a) (valOf κ a) = true := by
    unfold keyFits at hf
    split at hf
    · rename_i fs s t
      have hat := keyFs_atom fs 0 _ hf a
      show Instr.sameBits (9999 + 1) (.agg (flatVals (.prod s t) a).toArray) (.agg (flatVals (.prod s t) a).toArray) = true
      simp only [Instr.sameBits, beq_self_eq_true, Bool.true_and, List.all_eq_true]
      intro p hp
      obtain ⟨j, hj⟩ := List.mem_iff_getElem?.1 hp
      rw [List.getElem?_zip_eq_some] at hj
      obtain ⟨h1, h2⟩ := hj
      have : p.1 = p.2 := by rw [h1] at h2; injection h2
      obtain ⟨p1, p2⟩ := p
      simp only at this
      subst this
      exact (hat p1 (by simpa using List.mem_of_getElem? h1)).bits 9999
    · exact (scalar_atom hf a).bits 10000
  simp [Instr.keyThatStays, hs]

/-! ### finding -/

/-- Where a key stands first. -/
def fIx (κ τ : Ty) (a : El κ) : Ents κ τ → Nat → Option (Nat × Value)
  | [], _ => none
  | e :: r, i => bif eqEl κ a e.1 then some (i, valOf τ e.2.1) else fIx κ τ a r (i + 1)

theorem findAsking_run {kt : Nat} {κ τ : Ty} {a : El κ} (he : ∀ b : El κ, (Op.equal kt (valOf κ a) (valOf κ b)).run P w = .ok (eqEl κ a b) w) : ∀ (es : Ents κ τ) (i : Nat),
    (Instr.findAsking kt (valOf κ a) (es.map (entOf κ τ)) i).run P w = .ok (fIx κ τ a es i) w
  | [], i => rfl
  | e :: r, i => by
    rw [List.map_cons, Instr.findAsking, Sem.run_bind]
    have := he e.1
    rw [show (entOf κ τ e).key = valOf κ e.1 from rfl, this, Result.andThen_ok]
    unfold fIx
    cases eqEl κ a e.1 with
    | true => rfl
    | false => exact findAsking_run he r (i + 1)

theorem findNow_run {d : TypeDesc} {κ τ : Ty} {a : El κ} (he : ∀ b : El κ, Instr.sameNow d (valOf κ a) (valOf κ b) = some (eqEl κ a b) ∨ Instr.sameNow d (valOf κ a) (valOf κ b) = none) : ∀ (es : Ents κ τ) (i : Nat),
    Instr.findNow d (valOf κ a) (es.map (entOf κ τ)) i = some (fIx κ τ a es i) ∨ Instr.findNow d (valOf κ a) (es.map (entOf κ τ)) i = none
  | [], i => .inl rfl
  | e :: r, i => by
    rw [List.map_cons, Instr.findNow]
    unfold fIx
    rcases he e.1 with h1 | h1
    · rw [show (entOf κ τ e).key = valOf κ e.1 from rfl, h1]
      cases eqEl κ a e.1 with
      | true => exact .inl rfl
      | false => exact findNow_run he r (i + 1)
    · rw [show (entOf κ τ e).key = valOf κ e.1 from rfl, h1]
      exact .inr rfl

theorem findKey_run {kt : Nat} {kd : D} {κ τ : Ty} (hty : TyOK P cfg.ty) (hkd : dOf cfg.ty kt = some kd) (hf : keyFits cfg.ty kd κ = true) (a : El κ) (es : Ents κ τ) :
    (Instr.findKey kt (valOf κ a) (es.map (entOf κ τ))).run P w = .ok (fIx κ τ a es 0) w := by
  obtain ⟨d', hu, hdr⟩ := hty.und hkd
  rw [Instr.findKey, Sem.run_bind, run_underlying hu, Result.andThen_ok]
  have hn : ∀ b : El κ, Instr.sameNow d' (valOf κ a) (valOf κ b) = some (eqEl κ a b) ∨ Instr.sameNow d' (valOf κ a) (valOf κ b) = none := by
    intro b
    unfold keyFits at hf
    split at hf
    · obtain ⟨fs', rfl, _⟩ := hdr.st
      exact .inr rfl
    · left
      unfold scalarTy at hf
      split at hf
      · have := of_decide_eq_true hf; subst this
        have := hdr.int; subst this
        simp [Instr.sameNow, valOf, eqEl]
      · have := hdr.bool; subst this
        simp [Instr.sameNow, valOf, eqEl]
      · have := hdr.str; subst this
        simp [Instr.sameNow, valOf, eqEl, beq_toListBytes]
      · cases hf
  rcases findNow_run hn es 0 with h1 | h1
  · rw [h1]; rfl
  · rw [h1]; exact findAsking_run (fun b => key_equal hty hkd hf a b) es 0

theorem fIx_none {κ τ : Ty} {a : El κ} : ∀ {es : Ents κ τ} {i : Nat}, fIx κ τ a es i = none → hasE κ τ a es = false ∧ (∀ z, getE κ τ z a es = z) ∧ (∀ c, bornE κ τ c a es = c) ∧ (∀ c v, setE κ τ c a v es = es ++ [(a, v, c)]) ∧ delE κ τ a es = es
  | [], i, _ => ⟨rfl, fun _ => rfl, fun _ => rfl, fun _ _ => rfl, rfl⟩
  | e :: r, i, h => by
    unfold fIx at h
    cases he : eqEl κ a e.1 with
    | true => rw [he] at h; cases h
    | false =>
      rw [he] at h
      simp only [cond_false] at h
      obtain ⟨h1, h2, h3, h4, h5⟩ := fIx_none h
      refine ⟨by simp only [hasE, List.any_cons, he, Bool.false_or]; exact h1, fun z => ?_, fun c => ?_, fun c v => ?_, ?_⟩
      · simp only [getE, he, cond_false]; exact h2 z
      · simp only [bornE, he, cond_false]; exact h3 c
      · simp only [setE, he, cond_false, h4, List.cons_append]
      · simp only [delE, he, cond_false, h5]

theorem fIx_some {κ τ : Ty} {a : El κ} {v : Value} {i : Nat} : ∀ {es : Ents κ τ} {n : Nat}, fIx κ τ a es n = some (i, v) → ∃ j e, i = n + j ∧ es[j]? = some e ∧ v = valOf τ e.2.1 ∧ e.1 = a ∧ hasE κ τ a es = true ∧
    (∀ z, getE κ τ z a es = e.2.1) ∧ (∀ c, bornE κ τ c a es = e.2.2) ∧ (∀ c y, setE κ τ c a y es = es.modify j fun e => (e.1, y, e.2.2)) ∧ delE κ τ a es = es.eraseIdx j
  | [], n, h => by cases h
  | e :: r, n, h => by
    unfold fIx at h
    cases he : eqEl κ a e.1 with
    | true =>
      rw [he] at h
      simp only [cond_true, Option.some.injEq, Prod.mk.injEq] at h
      obtain ⟨rfl, rfl⟩ := h
      refine ⟨0, e, rfl, rfl, rfl, (eqEl_eq κ he).symm, ?_, fun z => ?_, fun c => ?_, fun c y => ?_, ?_⟩
      · simp [hasE, he]
      · simp [getE, he]
      · simp [bornE, he]
      · simp [setE, he]
      · simp [delE, he]
    | false =>
      rw [he] at h
      simp only [cond_false] at h
      obtain ⟨j, e', h0, h1, h2, h3, h4, h5, h6, h7, h8⟩ := fIx_some h
      refine ⟨j + 1, e', by omega, by simpa using h1, h2, h3, ?_, fun z => ?_, fun c => ?_, fun c y => ?_, ?_⟩
      · simp only [hasE, List.any_cons, he, Bool.false_or]; exact h4
      · simp only [getE, he, cond_false]; exact h5 z
      · simp only [bornE, he, cond_false]; exact h6 c
      · simp only [setE, he, cond_false, h7]; simp
      · simp only [delE, he, cond_false, h8]; simp

/-! ### the operations -/

theorem dec1_scalar {d : D} {t : Ty} (hs : scalarTy d t = true) {cs : List IC} {y : El t} (hd : dec1 t cs = some y) : cs = [.v (valOf t y)] := by
  unfold scalarTy at hs
  split at hs
  · rename_i k k'
    cases cs with
    | nil => simp [dec1, dec] at hd
    | cons c r =>
      cases c with
      | v u =>
        cases u with
        | int k2 n =>
          by_cases hk : k2 = k'
          · subst hk
            simp only [dec1, dec, if_true] at hd
            cases r with
            | nil => simp at hd; subst hd; rfl
            | cons => simp at hd
          · simp [dec1, dec, hk] at hd
        | _ => simp [dec1, dec] at hd
      | _ => simp [dec1, dec] at hd
  · cases cs with
    | nil => simp [dec1, dec] at hd
    | cons c r =>
      cases c with
      | v u =>
        cases u with
        | bool b =>
          simp only [dec1, dec] at hd
          cases r with
          | nil => simp at hd; subst hd; rfl
          | cons => simp at hd
        | _ => simp [dec1, dec] at hd
      | _ => simp [dec1, dec] at hd
  · cases cs with
    | nil => simp [dec1, dec] at hd
    | cons c r =>
      cases c with
      | v u =>
        cases u with
        | string b =>
          simp only [dec1, dec] at hd
          cases r with
          | nil => simp at hd; subst hd; rfl
          | cons => simp at hd
        | _ => simp [dec1, dec] at hd
      | _ => simp [dec1, dec] at hd
  · cases hs

theorem iv_scalar {d : D} {τ : Ty} (hs : scalarTy d τ = true) (e : El τ) : IVRel x w (valOf τ e) (mkIV false (enc τ e)) := by
  obtain ⟨_, e1, _, _, h5, _⟩ := scalar_val hs e
  rw [e1]
  exact .c _ _ (.v _ h5)

/-- A value of a scalar's type, exactly. -/
theorem val_scalar {d : D} {τ : Ty} (hs : scalarTy d τ = true) {v : IV} {V : Value} (hv : IVRel x w V v) (hn : isAggV v = false) (ht : notTup v = true) {y : El τ} (hy : dec1 τ (cellsOf v) = some y) : V = valOf τ y := by
  have := dec1_scalar hs hy
  cases v with
  | agg => simp [isAggV] at hn
  | tup => simp [notTup] at ht
  | c c =>
    simp [cellsOf] at this
    subst this
    exact (iv_v hv).1

theorem dec_flat : ∀ (fs : List (Nat × Nat)) (i : Nat) (t : Ty), keyFs cfg.ty i fs t = true → ∀ (cs : List IC) (e : El t) (r : List IC), dec t cs = some (e, r) → cs = (flatVals t e).map IC.v ++ r
  | [], i, t, H, _, _, _, _ => by simp [keyFs] at H
  | [(o, t')], i, t, H, cs, e, r, hd => by
    simp only [keyFs, Bool.and_eq_true] at H
    obtain ⟨_, H⟩ := H
    split at H
    · exact dec_scalar H hd
    · cases H
  | (o, t') :: p :: q, i, t, H, cs, e, r, hd => by
    cases t with
    | prod a b =>
      simp only [keyFs, Bool.and_eq_true] at H
      obtain ⟨_, H1, H2⟩ := H
      split at H1
      · simp only [dec] at hd
        split at hd
        · rename_i x1 r1 h1
          split at hd
          · rename_i y1 r2 h2
            simp only [Option.some.injEq, Prod.mk.injEq] at hd
            obtain ⟨rfl, rfl⟩ := hd
            rw [dec_scalar H1 h1, dec_flat (p :: q) (i + 1) b H2 _ _ _ h2]
            show _ = (flatVals a x1 ++ flatVals b y1).map IC.v ++ r2
            simp
          · cases hd
        · cases hd
      · cases H1
    | _ => simp [keyFs] at H
where
  dec_scalar {d : D} {t : Ty} (hs : scalarTy d t = true) {cs : List IC} {y : El t} {r : List IC} (hd : dec t cs = some (y, r)) : cs = (flatVals t y).map IC.v ++ r := by
    unfold scalarTy at hs
    split at hs
    · rename_i k k'
      cases cs with
      | nil => simp [dec] at hd
      | cons c l =>
        cases c with
        | v u =>
          cases u with
          | int k2 n =>
            by_cases hk : k2 = k'
            · subst hk
              simp only [dec, if_true, Option.some.injEq, Prod.mk.injEq] at hd
              obtain ⟨rfl, rfl⟩ := hd
              rfl
            · simp [dec, hk] at hd
          | _ => simp [dec] at hd
        | _ => simp [dec] at hd
    · cases cs with
      | nil => simp [dec] at hd
      | cons c l =>
        cases c with
        | v u =>
          cases u with
          | bool b => simp only [dec, Option.some.injEq, Prod.mk.injEq] at hd; obtain ⟨rfl, rfl⟩ := hd; rfl
          | _ => simp [dec] at hd
        | _ => simp [dec] at hd
    · cases cs with
      | nil => simp [dec] at hd
      | cons c l =>
        cases c with
        | v u =>
          cases u with
          | string b => simp only [dec, Option.some.injEq, Prod.mk.injEq] at hd; obtain ⟨rfl, rfl⟩ := hd; rfl
          | _ => simp [dec] at hd
        | _ => simp [dec] at hd
    · cases hs

theorem val_key {kd : D} {κ : Ty} (hf : keyFits cfg.ty kd κ = true) {v : IV} {V : Value} (hv : IVRel x w V v) (ha : isAggV v = kd.agg) (ht : notTup v = true) {y : El κ} (hy : dec1 κ (cellsOf v) = some y) : V = valOf κ y := by
  unfold keyFits at hf
  split at hf
  · rename_i fs s t
    cases hv with
    | c => simp [isAggV, D.agg] at ha
    | tup => simp [notTup] at ht
    | agg us cs hs hrel =>
      have hy : dec1 (.prod s t) cs = some y := hy
      have hcs : cs = (flatVals (.prod s t) y).map IC.v := by
        unfold dec1 at hy
        split at hy
        · rename_i e he
          injection hy with hy; subst hy
          have := dec_flat fs 0 _ hf _ _ _ he
          simpa using this
        · cases hy
      show Value.agg us = .agg (flatVals (.prod s t) y).toArray
      congr 1
      apply Array.ext_getElem?
      intro j
      have hsz : us.size = (flatVals (.prod s t) y).length := by rw [hs, hcs]; simp
      by_cases hj : j < us.size
      · obtain ⟨vv, hvv⟩ : ∃ vv, (flatVals (.prod s t) y)[j]? = some vv := ⟨_, List.getElem?_eq_getElem (by omega)⟩
        have hc : cs[j]? = some (.v vv) := by rw [hcs, List.getElem?_map, hvv]; rfl
        have h1 := hrel j _ hc
        have h2 : us.getD j undef = vv := by
          generalize us.getD j undef = V at h1
          cases h1; rfl
        have h3 : us[j]? = some (us.getD j undef) := by simp [Array.getD, hj]
        rw [h3, h2, List.getElem?_toArray, hvv]
      · rw [Array.getElem?_eq_none (by omega)]
        rw [Array.getElem?_eq_none (by simp; omega)]
  · have hsc : kd.agg = false := (scalar_val hf y).2.2.2.1
    exact val_scalar hf hv (by rw [ha, hsc]) ht hy

/-- A map at hand: where it lies, what is in it, what is asked. -/
structure MapAt (P : Program) (cfg : Cfg) (h : Nat → Option Box) (x : Xs) (w : World) (t : Nat) (m X : Value) (κ τ : Ty) (id : Nat) (es : Ents κ τ) (c : Nat) (a : El κ) (z : El τ) : Prop where
  inn : ∃ kt et kd ie q b, P.underlying t = some (.map kt et) ∧ h id = some (.map κ τ es c) ∧ x.g id = some q ∧ q.blk = some b ∧ w.heap[b]? = some (.map (es.map (entOf κ τ)).toArray c) ∧ m = .map (some b) ∧ X = valOf κ a ∧
    dOf cfg.ty kt = some kd ∧ keyFits cfg.ty kd κ = true ∧ cfg.ty et = some ie ∧ scalarTy ie.d τ = true ∧ (∀ w', (zeroValue et).run P w' = .ok (valOf τ z) w')

theorem mapK_sound (hty : TyOK P cfg.ty) (rel : HRel M B O x h u w) (hsub : ∀ i b, hr i = some b → h i = some b) {t : Nat} {m a : IV} {A X : Value} {kk : (κ τ : Ty) → Nat → Ents κ τ → Nat → El κ → El τ → R} (hm : IVRel x w A m) (ha : IVRel x w X a)
    (H : mapK cfg hr t m a kk = some r) : ∃ κ τ id es c y z, kk κ τ id es c y z = some r ∧ MapAt P cfg h x w t A X κ τ id es c y z := by
  unfold mapK at H
  split at H
  case h_2 => cases H
  rename_i kt et id hd
  split at H
  case h_2 => cases H
  rename_i κ τ es c hbx
  obtain ⟨kd, hkd, H1⟩ := bindK_some H
  obtain ⟨ie, hie, H2⟩ := bindK_some H1
  obtain ⟨z, hz, H3⟩ := bindK_some H2
  obtain ⟨y, hy, H4⟩ := bindK_some H3
  obtain ⟨⟨hkf, hsc, hag, hnt⟩, H5⟩ := need_some H4
  refine ⟨κ, τ, id, es, c, y, z, H5, ⟨?_⟩⟩
  obtain ⟨d', hu, hdr⟩ := hty.und hd
  have hds := hdr.map; subst hds
  cases iv_c hm with
  | mref _ q b hg hb =>
    obtain ⟨q', hq', hbr⟩ := rel.box _ _ (hsub _ _ hbx)
    rw [hg] at hq'; injection hq' with hq'; subst hq'
    cases hbr with
    | map _ _ _ _ b' hb' hw =>
      rw [hb] at hb'; injection hb' with hb'; subst hb'
      obtain ⟨zv, z1, z2, z3⟩ := (hty _ _ hie).runZero1 (scalar_val hsc z).2.2.2.1
      have := dec1_scalar hsc hz
      rw [z2] at this
      injection this with this
      injection this with this
      exact ⟨kt, et, kd, ie, q, b, hu, hsub _ _ hbx, hg, hb, hw, rfl, val_key hkf ha hag hnt hy, hkd, hkf, hie, hsc, fun w' => by rw [z1 w', this]⟩

theorem makeMapK_sound (rel : HRel M B O x h u w) {t : Nat} (H : makeMapK cfg key k t = some r) :
    ∃ out, k out = some r ∧ ((∀ i, i ∈ out.news → u i = false) → Step P M B O x h u w out (Instr.makeMap t none)) := by
  unfold makeMapK at H
  split at H
  case h_2 => cases H
  obtain ⟨κ, _, H1⟩ := bindK_some H
  obtain ⟨τ, _, H2⟩ := bindK_some H1
  refine ⟨_, H2, fun hf => ?_⟩
  have hk : u key = false := hf key (by simp)
  have he := Ext.alloc rel hk ⟨some w.heap.size, 0, 0⟩ (.map #[] 0)
  refine ⟨.map (some w.heap.size), w.alloc (.map #[] 0), x.new key ⟨some w.heap.size, 0, 0⟩, ?_, he, Fr.alloc _ rel.big _, ?_, ?_⟩
  · rfl
  · exact rel.allocO hk (.map #[] 0) 0 0 _ (.map κ τ [] 0 w.heap.size rfl (heap_alloc_new _ _))
  · exact .c _ _ (VRel.mref key ⟨some w.heap.size, 0, 0⟩ w.heap.size (upd_same _ _ _) rfl)

theorem MapAt.put (rel : HRel M B O x h u w) {κ τ : Ty} {id : Nat} {es es' : Ents κ τ} {c c' b : Nat} {q : Gh} (hb : h id = some (.map κ τ es c)) (hg : x.g id = some q) (hq : q.blk = some b) (hw : w.heap[b]? = some (.map (es.map (entOf κ τ)).toArray c)) :
    Ext x w x (World.putBlk w b (.map (es'.map (entOf κ τ)).toArray c')) ∧ Fr M B w (World.putBlk w b (.map (es'.map (entOf κ τ)).toArray c')) ∧
      HRel M B O x (upd h id (some (.map κ τ es' c'))) u (World.putBlk w b (.map (es'.map (entOf κ τ)).toArray c')) := by
  have hown := rel.own id _ q b hb rfl hg hq
  exact ⟨Ext.putBlk hown.2 rel.okp _, Fr.putBlk hown.1 _, rel.putO hb rfl hg hq _ _ (.map κ τ es' c' b hq (putBlk_same (lt_of_some hw) _))⟩

theorem lookupK_sound (hty : TyOK P cfg.ty) (rel : HRel M B O x h u w) (hsub : ∀ i b, hr i = some b → h i = some b) {t : Nat} {m a : IV} {A X : Value} {ok : Bool} (hm : IVRel x w A m) (ha : IVRel x w X a)
    (H : lookupK cfg hr k t m a ok = some r) : ∃ out, k out = some r ∧ Step P M B O x h u w out (Instr.lookup t A X ok) := by
  obtain ⟨κ, τ, id, es, c, y, z, H1, ⟨kt, et, kd, ie, q, b, hu, hb, hg, hq, hw, rfl, rfl, hkd, hkf, hie, hsc, hz⟩⟩ := mapK_sound (P := P) hty rel hsub hm ha H
  refine ⟨_, H1, ?_⟩
  have hfk := findKey_run (P := P) (w := w) (τ := τ) hty hkd hkf y es
  have hck := key_check (P := P) (w := w) hty hkd hkf y (es.map (entOf κ τ)).toArray.isEmpty
  have hrun : (Instr.lookup t (.map (some b)) (valOf κ y) ok).run P w = .ok (if ok then .tuple #[valOf τ (getE κ τ z y es), .bool (hasE κ τ y es)] else valOf τ (getE κ τ z y es)) w := by
    cases hfi : fIx κ τ y es 0 with
    | none =>
      obtain ⟨f1, f2, _⟩ := fIx_none hfi
      rw [hfi] at hfk
      simp only [Instr.lookup, Sem.run_bind, Sem.run_pure, run_underlying hu, Result.andThen_ok, run_getObj_of hw, hck, hfk, hz, f1, f2]
    | some p =>
      obtain ⟨i, v⟩ := p
      obtain ⟨j, e, _, _, f3, _, f5, f6, _⟩ := fIx_some hfi
      rw [hfi] at hfk
      simp only [Instr.lookup, Sem.run_bind, Sem.run_pure, run_underlying hu, Result.andThen_ok, run_getObj_of hw, hck, hfk, f5, f6, f3]
  refine Step.pure rel hrun ?_
  cases ok with
  | false => exact iv_scalar hsc _
  | true =>
    refine .tup _ _ rfl fun j c hc => ?_
    match j, hc with
    | 0, hc => simp at hc; subst hc; exact iv_scalar hsc _
    | 1, hc => simp at hc; subst hc; exact vrel_bool _
    | j + 2, hc => simp at hc

theorem modify_ents {κ τ : Ty} {es : Ents κ τ} {j : Nat} {e : El κ × El τ × Nat} {a : El κ} {y : El τ} (hj : es[j]? = some e) (ha : e.1 = a) :
    ((es.map (entOf κ τ)).toArray.modify j fun en => { en with key := valOf κ a, val := valOf τ y }) = ((es.modify j fun e => (e.1, y, e.2.2)).map (entOf κ τ)).toArray := by
  apply Array.ext_getElem?
  intro i
  rw [Array.getElem?_modify, List.getElem?_toArray, List.getElem?_toArray, List.getElem?_map, List.getElem?_map, List.getElem?_modify]
  by_cases h1 : j = i
  · subst h1
    rw [hj]
    simp [entOf, ha]
  · simp [h1]

theorem mapUpdateK_sound (hty : TyOK P cfg.ty) (rel : HRel M B O x h u w) (hsub : ∀ i b, hr i = some b → h i = some b) {t : Nat} {m a v : IV} {A X V : Value} (hm : IVRel x w A m) (ha : IVRel x w X a) (hv : IVRel x w V v)
    (H : mapUpdateK cfg hr k t m a v = some r) : ∃ out, k out = some r ∧ out.v = .c .junk ∧ StepU P M B O x h u w out (Instr.mapUpdate t A X V) := by
  obtain ⟨κ, τ, id, es, c, y, z, H1, ⟨kt, et, kd, ie, q, b, hu, hb, hg, hq, hw, rfl, rfl, hkd, hkf, hie, hsc, hz⟩⟩ := mapK_sound (P := P) hty rel hsub hm ha H
  obtain ⟨yv, hyv, H2⟩ := bindK_some H1
  obtain ⟨hnt, H3⟩ := need_some H2
  have hV : V = valOf τ yv := val_scalar hsc hv hnt.1 hnt.2 hyv
  subst hV
  refine ⟨_, H3, rfl, ?_⟩
  have hfk := findKey_run (P := P) (w := w) (τ := τ) hty hkd hkf y es
  have hck := key_check (P := P) (w := w) hty hkd hkf y false
  obtain ⟨p1, p2, p3⟩ := MapAt.put (es' := setE κ τ c y yv es) (c' := clockE κ τ c y es) rel hb hg hq hw
  refine ⟨_, x, ?_, p1, p2, p3⟩
  cases hfi : fIx κ τ y es 0 with
  | none =>
    obtain ⟨f1, f2, f3, f4, f5⟩ := fIx_none hfi
    rw [hfi] at hfk
    simp only [Instr.mapUpdate, Sem.run_bind, run_underlying hu, Result.andThen_ok, run_getObj_of hw, hck, hfk, run_setObj_of _ hw, f4, clockE, f1]
    congr 2
    simp [entOf]
  | some p =>
    obtain ⟨i, v⟩ := p
    obtain ⟨j, e, f0, f2, f3, f4, f5, f6, f7, f8, f9⟩ := fIx_some hfi
    rw [hfi] at hfk
    have hij : i = j := by omega
    subst hij
    have hk := key_stays (P := P) (w := w) hkf y
    have hgk : (((es.map (entOf κ τ)).toArray[i]?).map (·.key)).getD (valOf κ y) = valOf κ y := by simp [f2, entOf, f4]
    simp only [Instr.mapUpdate, Sem.run_bind, run_underlying hu, Result.andThen_ok, run_getObj_of hw, hck, hfk, hgk, hk, run_setObj_of _ hw, clockE, f5, cond_true, f8, modify_ents f2 f4]

theorem modify_key {κ τ : Ty} {es : Ents κ τ} {j : Nat} {e : El κ × El τ × Nat} {a : El κ} (hj : es[j]? = some e) (ha : e.1 = a) :
    ((es.map (entOf κ τ)).toArray.modify j fun en => { en with key := valOf κ a }) = ((es.modify j fun f => (f.1, e.2.1, f.2.2)).map (entOf κ τ)).toArray := by
  apply Array.ext_getElem?
  intro i
  rw [Array.getElem?_modify, List.getElem?_toArray, List.getElem?_toArray, List.getElem?_map, List.getElem?_map, List.getElem?_modify]
  by_cases h1 : j = i
  · subst h1
    rw [hj]
    simp [entOf, ha]
  · simp [h1]

theorem mapEntryK_sound (hty : TyOK P cfg.ty) (rel : HRel M B O x h u w) (hsub : ∀ i b, hr i = some b → h i = some b) {t : Nat} {m a : IV} {A X : Value} (hm : IVRel x w A m) (ha : IVRel x w X a)
    (H : mapEntryK cfg hr k t m a = some r) : ∃ out, k out = some r ∧ Step P M B O x h u w out (Instr.mapEntry t A X) := by
  obtain ⟨κ, τ, id, es, c, y, z, H1, ⟨kt, et, kd, ie, q, b, hu, hb, hg, hq, hw, rfl, rfl, hkd, hkf, hie, hsc, hz⟩⟩ := mapK_sound (P := P) hty rel hsub hm ha H
  refine ⟨_, H1, ?_⟩
  have hfk := findKey_run (P := P) (w := w) (τ := τ) hty hkd hkf y es
  have hck := key_check (P := P) (w := w) hty hkd hkf y false
  obtain ⟨p1, p2, p3⟩ := MapAt.put (es' := setE κ τ c y (getE κ τ z y es) es) (c' := clockE κ τ c y es) rel hb hg hq hw
  refine ⟨.tuple #[valOf τ (getE κ τ z y es), .int .i64 (bornE κ τ c y es : Int)], _, x, ?_, p1, p2, p3, ?_⟩
  · cases hfi : fIx κ τ y es 0 with
    | none =>
      obtain ⟨f1, f2, f3, f4, f5⟩ := fIx_none hfi
      rw [hfi] at hfk
      simp only [Instr.mapEntry, Sem.run_bind, Sem.run_pure, run_underlying hu, Result.andThen_ok, run_getObj_of hw, hck, hfk, hz, run_setObj_of _ hw, f2, f3, f4, clockE, f1]
      have e1 : (es.map (entOf κ τ)).toArray.push { key := valOf κ y, val := valOf τ z, born := c } = ((es ++ [(y, z, c)]).map (entOf κ τ)).toArray := by simp [entOf]
      rw [e1]; rfl
    | some p =>
      obtain ⟨i, v⟩ := p
      obtain ⟨j, e, f0, f2, f3, f4, f5, f6, f7, f8, f9⟩ := fIx_some hfi
      rw [hfi] at hfk
      have hij : i = j := by omega
      subst hij
      have hk := key_stays (P := P) (w := w) hkf y
      have hgk : (((es.map (entOf κ τ)).toArray[i]?).map (·.key)).getD (valOf κ y) = valOf κ y := by simp [f2, entOf, f4]
      have hgb : (((es.map (entOf κ τ)).toArray[i]?).map fun z => (z.born : Int)).getD 0 = (e.2.2 : Int) := by simp [f2, entOf]
      simp only [Instr.mapEntry, Sem.run_bind, Sem.run_pure, run_underlying hu, Result.andThen_ok, run_getObj_of hw, hck, hfk, hgk, hgb, hk, run_setObj_of _ hw, clockE, f5, f6, f7, f8, cond_true, modify_key f2 f4, f3]
      rfl
  · refine .tup _ _ rfl fun j c' hc => ?_
    match j, hc with
    | 0, hc => simp at hc; subst hc; exact iv_scalar hsc _
    | 1, hc => simp at hc; subst hc; exact vrel_int _ _
    | j + 2, hc => simp at hc

theorem map_erase {α β : Type} (f : α → β) : ∀ (l : List α) (i : Nat), (l.map f).eraseIdx i = (l.eraseIdx i).map f
  | [], _ => rfl
  | _ :: _, 0 => rfl
  | a :: l, i + 1 => by simp [map_erase f l i]

theorem deleteK_sound (hty : TyOK P cfg.ty) (rel : HRel M B O x h u w) (hsub : ∀ i b, hr i = some b → h i = some b) {t ty : Nat} {ts : Array Nat} (h0 : ts[0]? = some t) {m a : IV} {A X : Value} (hm : IVRel x w A m) (ha : IVRel x w X a)
    (H : deleteK cfg hr k t m a = some r) : ∃ out, k out = some r ∧ Step P M B O x h u w out (Builtin.delete_ ts ty #[A, X]) := by
  obtain ⟨κ, τ, id, es, c, y, z, H1, ⟨kt, et, kd, ie, q, b, hu, hb, hg, hq, hw, rfl, rfl, hkd, hkf, hie, hsc, hz⟩⟩ := mapK_sound (P := P) hty rel hsub hm ha H
  refine ⟨_, H1, ?_⟩
  have hfk := findKey_run (P := P) (w := w) (τ := τ) hty hkd hkf y es
  have hck := key_check (P := P) (w := w) hty hkd hkf y (es.map (entOf κ τ)).toArray.isEmpty
  obtain ⟨p1, p2, p3⟩ := MapAt.put (es' := delE κ τ y es) (c' := c) rel hb hg hq hw
  have a0 : (#[Value.map (some b), valOf κ y] : Array Value)[0]? = some (.map (some b)) := rfl
  have a1 : (#[Value.map (some b), valOf κ y] : Array Value)[1]? = some (valOf κ y) := rfl
  refine ⟨.tuple #[], _, x, ?_, p1, p2, p3, .tup #[] [] rfl fun j c hc => by simp at hc⟩
  cases hfi : fIx κ τ y es 0 with
  | none =>
    obtain ⟨f1, f2, f3, f4, f5⟩ := fIx_none hfi
    rw [hfi] at hfk
    simp only [Builtin.delete_, h0, a0, a1, Sem.run_bind, Sem.run_pure, run_underlying hu, Result.andThen_ok, run_getObj_of hw, hck, hfk, run_setObj_of _ hw, f5]
  | some p =>
    obtain ⟨i, v⟩ := p
    obtain ⟨j, e, f0, f2, f3, f4, f5, f6, f7, f8, f9⟩ := fIx_some hfi
    rw [hfi] at hfk
    have hij : i = j := by omega
    subst hij
    have hlt : i < es.length := (List.getElem?_eq_some_iff.1 f2).1
    have e1 : (es.map (entOf κ τ)).toArray.eraseIdxIfInBounds i = ((es.eraseIdx i).map (entOf κ τ)).toArray := by
      simp [Array.eraseIdxIfInBounds, hlt, map_erase]
    simp only [Builtin.delete_, h0, a0, a1, Sem.run_bind, Sem.run_pure, run_underlying hu, Result.andThen_ok, run_getObj_of hw, hck, hfk, run_setObj_of _ hw, f9, e1]

theorem putE_ix {κ τ : Ty} {n : Int} {y : El τ} : ∀ {es : Ents κ τ}, bornIn κ τ n es = true → ∃ i, (es.findIdx? fun e => (e.2.2 : Int) == n) = some i ∧ putE κ τ n y es = es.modify i fun e => (e.1, y, e.2.2)
  | [], h => by cases h
  | e :: r, h => by
    simp only [bornIn, List.any_cons] at h
    cases he : ((e.2.2 : Int) == n) with
    | true => exact ⟨0, by simp [List.findIdx?_cons, he], by simp [putE, he]⟩
    | false =>
      rw [he] at h
      simp only [Bool.false_or] at h
      obtain ⟨i, h1, h2⟩ := putE_ix (y := y) h
      exact ⟨i + 1, by simp [List.findIdx?_cons, he, h1], by simp [putE, he, h2]⟩

theorem entryStoreK_sound (hty : TyOK P cfg.ty) (rel : HRel M B O x h u w) (hsub : ∀ i b, hr i = some b → h i = some b) {t : Nat} {m s v : IV} {A S V : Value} (hm : IVRel x w A m) (hs : IVRel x w S s) (hv : IVRel x w V v)
    (H : entryStoreK cfg hr k t m s v = some r) : ∃ out, k out = some r ∧ out.v = .c .junk ∧ StepU P M B O x h u w out (Instr.entryStore t A S V) := by
  unfold entryStoreK at H
  split at H
  case h_2 => cases H
  rename_i kt et id K n hd
  split at H
  case h_2 => cases H
  rename_i κ τ es c hbx
  obtain ⟨ie, hie, H1⟩ := bindK_some H
  obtain ⟨y, hy, H2⟩ := bindK_some H1
  obtain ⟨⟨hsc, hna, hnt⟩, H3⟩ := need_some H2
  obtain ⟨hbi, H4⟩ := test_some H3
  have hV : V = valOf τ y := val_scalar hsc hv hna hnt hy
  subst hV
  obtain ⟨rfl, _⟩ := iv_v hs
  refine ⟨_, H4, rfl, ?_⟩
  cases iv_c hm with
  | mref _ q b hg hb =>
    obtain ⟨q', hq', hbr⟩ := rel.box _ _ (hsub _ _ hbx)
    rw [hg] at hq'; injection hq' with hq'; subst hq'
    cases hbr with
    | map _ _ _ _ b' hb' hw =>
      rw [hb] at hb'; injection hb' with hb'; subst hb'
      obtain ⟨p1, p2, p3⟩ := MapAt.put (es' := putE κ τ n y es) (c' := c) rel (hsub _ _ hbx) hg hb hw
      obtain ⟨i, f1, f2⟩ := putE_ix (y := y) hbi
      refine ⟨_, x, ?_, p1, p2, p3⟩
      have e1 : (es.map (entOf κ τ)).toArray.findIdx? (fun e => (e.born : Int) == n) = some i := by
        simp only [List.findIdx?_toArray, List.findIdx?_map]
        exact f1
      have e2 : ((es.map (entOf κ τ)).toArray.modify i fun en => { en with val := valOf τ y }) = ((putE κ τ n y es).map (entOf κ τ)).toArray := by
        rw [f2]
        apply Array.ext_getElem?
        intro j
        rw [Array.getElem?_modify, List.getElem?_toArray, List.getElem?_toArray, List.getElem?_map, List.getElem?_map, List.getElem?_modify]
        by_cases h1 : i = j
        · subst h1
          cases es[i]? <;> simp [entOf]
        · simp [h1]
      simp only [Instr.entryStore, Sem.run_bind, run_getObj_of hw, Result.andThen_ok, asInt, asIntOf, Sem.run_pure, e1, e2, run_setObj_of _ hw]

end
end Go.Proofs.Ytdoilggfajngiaa.VE
