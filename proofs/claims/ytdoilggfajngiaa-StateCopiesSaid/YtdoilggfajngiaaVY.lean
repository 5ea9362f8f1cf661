/-
  A law's row: handed whatever can be read, the body's run answers true, and nothing that was there has turned.
-/
import Derived.Test.YtdoilggfajngiaaVX
import Derived.JoinedOf
namespace Go.Proofs.Ytdoilggfajngiaa.VE
open Go Go.RowKit Go.ChangeShapes

def Els : List (Bool × Ty) → Type
  | [] => Unit
  | p :: r => El p.2 × Els r

def wfsB (RB : Nat) : (ps : List (Bool × Ty)) → Els ps → Prop
  | [], _ => True
  | p :: r, x => wfB RB p.2 x.1 ∧ wfsB RB r x.2
abbrev wfs : (ps : List (Bool × Ty)) → Els ps → Prop := wfsB reachBytes

def ivs : (ps : List (Bool × Ty)) → Els ps → List IV
  | [], _ => []
  | p :: r, x => mkIV p.1 (enc p.2 x.1) :: ivs r x.2

theorem ivs_length : ∀ (ps : List (Bool × Ty)) (x : Els ps), (ivs ps x).length = ps.length
  | [], _ => rfl
  | _ :: r, x => by simp [ivs, ivs_length r]

def isStruct (P : Program) (t : Nat) : Bool := match P.underlying t with | some (.struct _) => true | _ => false

def fitsB (P : Program) : List Nat → List (Bool × Ty) → Bool
  | [], [] => true
  | t :: ts, p :: ps => fitB P 24 t p.2 && (p.1 == isStruct P t) && P.readableRec t && Nat.blt t P.types.size && fitsB P ts ps
  | _, _ => false

section
variable {RB : Nat} {H : Type} {en : TypeId × Value → H} {P : Program} {W : World} {base : Nat}

theorem open_one {t : Nat} {p : Bool × Ty} {v : Value} {d : DataW H} {ps : List MemPlace} (hd : DataW.Trod en P W 0 (fun _ => true) true t v d ps) (hf : fitB P 24 t p.2 = true) (ha : p.1 = isStruct P t)
    (hval : Value.okWide P W .any base t v) (hw : wOk RB P t d) : ∃ e : El p.2, wfB RB p.2 e ∧ IVRel (outside (all0 W) W) W v (mkIV p.1 (enc p.2 e)) := by
  obtain ⟨fuel, hd⟩ := hd
  obtain ⟨e, w1, l1, r1⟩ := open_ty 24 fuel t p.2 v.cells.toList (d, ps) hd hf hw
  refine ⟨e, w1, ?_⟩
  obtain ⟨b, τ⟩ := p
  simp only at *
  subst ha
  have hone : isStruct P t = false → (∀ cs, v ≠ .agg cs) ∧ width τ = 1 := by
    intro hs
    unfold fitB at hf
    unfold isStruct at hs
    unfold Value.okWide at hval
    split at hf
    · rename_i k k' hu
      simp only [hu] at hval
      refine ⟨fun cs h => ?_, rfl⟩
      subst h
      simp [Cell.okWide, Cell.ok, hu] at hval
    · rename_i hu
      simp only [hu] at hval
      refine ⟨fun cs h => ?_, rfl⟩
      subst h
      simp [Cell.okWide, Cell.ok, hu] at hval
    · rename_i hu
      simp only [hu] at hval
      refine ⟨fun cs h => ?_, rfl⟩
      subst h
      simp [Cell.okWide, Cell.ok, hu] at hval
    · rename_i e' τ' hu
      simp only [hu] at hval
      refine ⟨fun cs h => ?_, rfl⟩
      subst h
      simp [Cell.okWide, Cell.ok, hu] at hval
    · rename_i fs hu
      rw [hu] at hs
      cases hs
    · cases hf
  cases hs : isStruct P t with
  | false =>
    obtain ⟨h1, h2⟩ := hone hs
    have hc : v.cells = #[v] := by cases v <;> first | rfl | exact absurd rfl (h1 _)
    have hl : (enc τ e).length = 1 := by rw [enc_length, h2]
    obtain ⟨c, hcc⟩ := List.length_eq_one_iff.1 hl
    have := r1 0 c (by rw [hcc]; rfl)
    rw [hc] at this
    rw [hcc]
    exact .c _ _ (by simpa using this)
  | true =>
    have hag : ∃ cs, v = .agg cs := by
      unfold isStruct at hs
      unfold Value.okWide at hval
      split at hs
      · rename_i fs hu
        simp only [hu] at hval
        obtain ⟨cs, rfl, _⟩ := hval
        exact ⟨cs, rfl⟩
      · cases hs
    obtain ⟨cs, rfl⟩ := hag
    have hcs : (Value.agg cs).cells = cs := rfl
    rw [hcs] at l1 r1
    refine .agg cs _ (by rw [enc_length]; simpa using l1) fun j c hc => ?_
    have := r1 j c hc
    simpa [List.getD, Array.getD_eq_getD_getElem?] using this

theorem open_all : ∀ (ts : List Nat) (ps : List (Bool × Ty)) (vs : List Value) (ds : List (DataW H)) (q : List MemPlace), DataW.TrodAll en P W 0 (fun _ => true) true ts vs ds q → fitsB P ts ps = true →
    (∀ (j : Nat) t v, ts[j]? = some t → vs[j]? = some v → Value.okWide P W .any base t v) → (∀ n, n ∈ DataW.weightsEach P ts ds → n ≤ RB) →
    ∃ x : Els ps, wfsB RB ps x ∧ vs.length = ps.length ∧ ∀ j c, (ivs ps x)[j]? = some c → IVRel (outside (all0 W) W) W (vs.getD j undef) c
  | [], ps, vs, ds, q, h, hf, _, _ => by
    obtain ⟨rfl, rfl, rfl⟩ := trodAll_nil h
    cases ps with
    | nil => exact ⟨(), trivial, rfl, fun j c hc => (by simp [ivs] at hc)⟩
    | cons => simp [fitsB] at hf
  | t :: ts, ps, vs, ds, q, h, hf, hval, hw => by
    obtain ⟨v, vs1, d, ds1, a, b, rfl, rfl, rfl, h1, h2⟩ := trodAll_cons h
    cases ps with
    | nil => simp [fitsB] at hf
    | cons p ps =>
      simp only [fitsB, Bool.and_eq_true, beq_iff_eq] at hf
      obtain ⟨⟨⟨⟨f1, f2⟩, f3⟩, f4⟩, f5⟩ := hf
      simp only [DataW.weightsEach, List.mem_append] at hw
      obtain ⟨e, w1, r1⟩ := open_one h1 f1 f2 (hval 0 t v rfl rfl) fun n hn => hw n (.inl hn)
      obtain ⟨x, w2, l2, r2⟩ := open_all ts ps vs1 ds1 b h2 f5 (fun j t' v' ht hv => hval (j + 1) t' v' (by simpa using ht) (by simpa using hv)) fun n hn => hw n (.inr hn)
      refine ⟨(e, x), ⟨w1, w2⟩, by simp [l2], fun j c hc => ?_⟩
      cases j with
      | zero => simp [ivs] at hc; subst hc; exact r1
      | succ j => exact r2 j c (by simpa [ivs] using hc)

theorem stays_all (hl : laidOutB P = true) {W' : World} (hb : Below W.heap.size W W') {sp : Nat → Bool} : ∀ (ts : List Nat) (ps : List (Bool × Ty)) (vs : List Value) (ds : List (DataW H)) (q : List MemPlace),
    DataW.TrodAll en P W 0 (fun _ => true) true ts vs ds q → fitsB P ts ps = true → (∀ p ∈ q, p.block < W.heap.size) → (∀ p ∈ q, sp p.block = true) → DataW.TrodAll en P W' 0 sp true ts vs ds q
  | [], ps, vs, ds, q, h, _, _, _ => by
    obtain ⟨rfl, rfl, rfl⟩ := trodAll_nil h
    rfl
  | t :: ts, ps, vs, ds, q, h, hf, hlt, hs => by
    obtain ⟨v, vs1, d, ds1, a, b, rfl, rfl, rfl, h1, h2⟩ := trodAll_cons h
    cases ps with
    | nil => simp [fitsB] at hf
    | cons p ps =>
      simp only [fitsB, Bool.and_eq_true, beq_iff_eq] at hf
      obtain ⟨⟨⟨⟨f1, f2⟩, f3⟩, f4⟩, f5⟩ := hf
      exact ⟨a, b, WideElems.Trod_stays hl f3 (Nat.le_of_ble_eq_true f4) h1 (fun x hx => hb.same (hlt x (List.mem_append_left _ hx))) (fun x hx => hs x (List.mem_append_left _ hx)),
        stays_all hl hb ts ps vs1 ds1 b h2 f5 (fun x hx => hlt x (List.mem_append_right _ hx)) (fun x hx => hs x (List.mem_append_right _ hx)), rfl⟩

theorem post_of_below {f : Func} {s : ChangeSpec} {apart fresh handsOn again : Bool} {W' : World} {args : Array Value} {ds : List (DataW H)} {before : List MemPlace} {ps : List (Bool × Ty)} {tb : Nat}
    (hl : laidOutB P = true) (hvars : s.vars = []) (hfn : s.fn H ds = { results := [.lit (.bool true)], args := ds }) (hfit : fitsB P f.params.toList ps = true)
    (hres : f.resultTypes = #[tb]) (htb : P.underlying tb = some .bool)
    (hW : DataW.Whole en P f.params.toList s.vars apart W args.toList ds [] before) (hb : Below W.heap.size W W') : s.post en P f apart fresh handsOn again W args (.bool true) W' := by
  have hlt := hW.lt
  have hW0 := hW
  rw [hvars] at hW
  obtain ⟨pa, pv, hA, hV, hps, hfz, hnd⟩ := hW
  have hpv : pv = [] := hV
  subst hpv
  rw [List.append_nil] at hps
  subst hps
  have hargs : ∀ sp : Nat → Bool, (∀ p ∈ before, sp p.block = true) → DataW.TrodAll en P W' 0 sp true f.params.toList args.toList ds before := fun sp hs => stays_all hl hb _ _ _ _ _ hA hfit hlt hs
  have hr : ∀ (b : Nat) (sp : Nat → Bool) (hd : Bool), DataW.TrodAll en P W' b sp hd f.resultTypes.toList ((Value.bool true).resultList f.resultTypes.size) [.lit (.bool true)] [] := fun b sp hd => by
    rw [hres]
    exact trodAll_mk1 (shut_bool htb true)
  have hfn' : s.fn H (ds ++ []) = { results := [.lit (.bool true)], args := ds } := by rw [List.append_nil]; exact hfn
  refine ⟨ds, [], before, [], before, [], hW0, ?_, ?_, ?_, hb.frame _, fun _ => ?_⟩
  · rw [hfn']; exact hr _ _ _
  · rw [hfn']; exact hargs _ fun p hp => by simpa using hlt p hp
  · rw [hfn', hvars]; rfl
  · refine ⟨?_, _, [], ([] ++ before) ++ [], ⟨[] ++ before, [], trodAll_append (hargs _ (fun _ _ => rfl)) (hr _ _ _), by rw [hvars]; rfl, rfl, ?_, ?_⟩, ?_⟩
    · intro j t r hj hv
      rw [hres] at hj hv
      match j, hj, hv with
      | 0, hj, hv =>
        simp at hj
        subst hj
        have : r = .bool true := by
          have h2 : ((Value.bool true).resultList 1)[0]? = some (.bool true) := rfl
          have h3 : ((Value.bool true).resultList (#[tb] : Array Nat).size)[0]? = some (.bool true) := h2
          rw [h3] at hv
          exact (Option.some.inj hv).symm
        subst this
        simp [Value.okWide, htb, Cell.okWide, Cell.ok]
      | j + 1, hj, _ => simp at hj
    · intro b off hp
      have hp' : MemPlace.cell b off ∈ before := by simpa using hp
      rw [hb.frozen (p := ⟨b, off, none⟩) (hlt _ hp')]
      exact hfz b off (by simpa using hp')
    · intro ha
      simpa using hnd ha
    · intro p hp _
      simpa using hp

end

/-- The row's body, for a law that takes such data. -/
theorem law_lifted {C : Checked} {os : Os} {H : Type} {en : TypeId × Value → H} (own : ownKnob C.prog.godebug = none) (started : os.Started) (hl : laidOutB C.prog = true) {f : FuncId} {fn : Func} (noInit : C.prog.inits.idxOf? f = none)
    (hf : C.prog.funcs[f]? = some fn) {s : ChangeSpec} {apart fresh handsOn again : Bool} {ps : List (Bool × Ty)} {tb : Nat} (hfit : fitsB C.prog fn.params.toList ps = true) (hres : fn.resultTypes = #[tb])
    (htb : C.prog.underlying tb = some .bool) (hvars : s.vars = []) (hfn : ∀ (H : Type) (ds : List (DataW H)), ds.length = ps.length → s.fn H ds = { results := [.lit (.bool true)], args := ds })
    (witness : ∃ (w : World) (tape : Tape) (i : Input), w.os = os ∧ (w.forCall tape i).Shaped C.prog ∧ i.vars = [] ∧ Input.okWide C.prog (w.forCall tape i) .any w.heap.size f i ∧
      s.pre6 en C.prog fn [] apart (w.forCall tape i).memory i.args ∧ ({} : Assume).holds C.prog (lone (Frame.enter C.prog f i.args .normal) [] (w.forCall tape i)))
    (hrun : ∀ x : Els ps, wfs ps x → Returns C.prog f (ivs ps x) (vb true)) (htab : tabCells = [] := by rfl) :
    ReturnsInHanded {} C os f .any (s.pre6 en C.prog fn [] apart) (s.post en C.prog fn apart fresh handsOn again) := by
  refine returnsInHanded_of_change_sized own started noInit hf witness ?_
  intro W base args ds gs before hval hW _ hwt _
  have hgs : gs = [] := by
    obtain ⟨p, q, _, hV, _⟩ := hW
    rw [hvars] at hV
    cases gs with
    | nil => rfl
    | cons => exact hV.elim
  subst hgs
  have hW0 := hW
  obtain ⟨p, q, hA, hV, _⟩ := hW
  have hwt' : ∀ n, n ∈ DataW.weightsEach C.prog fn.params.toList ds → n ≤ reachBytes := fun n hn => by
    have hv0 : s.plain.varTypes C.prog = [] := by
      have : s.plain.vars = [] := hvars
      unfold DataSpec.varTypes; rw [this]; rfl
    rw [hv0, List.append_nil, List.append_nil] at hwt
    have := List.all_eq_true.1 hwt n hn
    simpa using this
  obtain ⟨x, w1, l1, r1⟩ := open_all fn.params.toList ps args.toList ds p hA hfit (fun j t v ht hv => hval j t v (by simpa using ht) (by simpa using hv)) hwt'
  have hds : ds.length = ps.length := by
    have : ∀ (ts : List Nat) (vs : List Value) (ds : List (DataW H)) (q : List MemPlace), DataW.TrodAll en C.prog W 0 (fun _ => true) true ts vs ds q → ds.length = vs.length := by
      intro ts
      induction ts with
      | nil => intro vs ds q h; obtain ⟨rfl, rfl, rfl⟩ := trodAll_nil h; rfl
      | cons t ts ih => intro vs ds q h; obtain ⟨v, vs1, d, ds1, a, b, rfl, rfl, rfl, h1, h2⟩ := trodAll_cons h; simp [ih _ _ _ h2]
    rw [this _ _ _ _ hA, l1]
  refine (hrun x w1 W args (all0 W) (fun b o h => h) (fun p hp => by rw [htab] at hp; cases hp) (by rw [ivs_length, ← l1]; simp) (fun j c hc => ?_)).mono fun e W' ⟨v, he, hb, hv⟩ => ?_
  · have := r1 j c hc
    simpa [List.getD, Array.getD_eq_getD_getElem?] using this
  · obtain ⟨hv', _⟩ := iv_v hv
    subst hv'
    exact ⟨_, he, post_of_below hl hvars (hfn H ds hds) hfit hres htb hW0 hb⟩

end Go.Proofs.Ytdoilggfajngiaa.VE
