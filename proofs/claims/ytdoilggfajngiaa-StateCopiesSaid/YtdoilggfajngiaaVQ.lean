/-
  A region whose order is open: whatever is not held by an edge keeps apart, so every order comes to the text's.
-/
import Derived.Test.YtdoilggfajngiaaVP
namespace Go.Proofs.Ytdoilggfajngiaa.VE
open Go Go.RowKit

theorem updMany_off {α : Type} : ∀ (l : List (Nat × α)) (f : Nat → α) (j : Nat), j ∉ l.map (·.1) → updMany f l j = f j
  | [], _, _, _ => rfl
  | (i, x) :: r, f, j, h => by
    simp only [List.map_cons, List.mem_cons, not_or] at h
    show updMany (upd f i x) r j = f j
    rw [updMany_off r _ j h.2, upd_other _ _ h.1]

theorem updMany_at {α : Type} : ∀ (l : List (Nat × α)) (f g : Nat → α) (j : Nat), f j = g j → updMany f l j = updMany g l j
  | [], _, _, _, h => h
  | (i, x) :: r, f, g, j, h => updMany_at r _ _ j (by
      by_cases e : j = i
      · subst e; rw [upd_same, upd_same]
      · rw [upd_other _ _ e, upd_other _ _ e, h])

theorem updMany_comm {α : Type} (f : Nat → α) (l l' : List (Nat × α)) (h : ∀ i, i ∈ l.map (·.1) → i ∉ l'.map (·.1)) : updMany (updMany f l) l' = updMany (updMany f l') l := by
  funext j
  by_cases hj : j ∈ l.map (·.1)
  · rw [updMany_off l' _ j (h j hj)]
    exact updMany_at l _ _ j (updMany_off l' _ j (h j hj)).symm
  · rw [updMany_off l _ j hj]
    exact updMany_at l' _ _ j (updMany_off l _ j hj)

theorem updTrue_false : ∀ (l : List Nat) (f : Nat → Bool) (i : Nat), updMany f (l.map fun i => (i, true)) i = false → f i = false
  | [], _, _, h => h
  | j :: r, f, i, h => by
    have h1 := updTrue_false r _ i h
    by_cases e : i = j
    · subst e; rw [upd_same] at h1; cases h1
    · rwa [upd_other _ _ e] at h1

/-! ### what an operation looks at -/

structure Same (all : Array Oper) (o : Oper) (σ ρ : St) : Prop where
  t : ∀ d, d ∈ o.looksAt all → ρ.t d = σ.t d
  h : ∀ i, i ∈ readsOf σ o → ρ.h i = σ.h i

theorem reach_same {h h' : Nat → Option Box} : ∀ (n : Nat) (l : List Nat), (∀ i, i ∈ reach h n l → h' i = h i) → reach h' n l = reach h n l
  | 0, _, _ => rfl
  | n + 1, l, H => by
    have hl : ∀ i, i ∈ l → h' i = h i := fun i hi => H i (List.mem_append_left _ hi)
    have e : ∀ l : List Nat, (∀ i, i ∈ l → h' i = h i) → l.foldr (fun i r => (match h' i with | some (.cells _ cs) => idsIn cs | _ => []) ++ r) [] = l.foldr (fun i r => (match h i with | some (.cells _ cs) => idsIn cs | _ => []) ++ r) [] := by
      intro l hl
      induction l with
      | nil => rfl
      | cons a r ih =>
        simp only [List.foldr_cons]
        rw [hl a (List.mem_cons_self ..), ih fun i hi => hl i (List.mem_cons_of_mem _ hi)]
    exact (congrArg (fun z => l ++ reach h' n z) (e l hl)).trans (congrArg (l ++ ·) (reach_same n _ fun i hi => H i (List.mem_append_right _ hi)))

theorem mem_looks {all : Array Oper} {o : Oper} {t : Nat} (h : Operand.tmp t ∈ o.op.operands.toList) : t ∈ o.looksAt all :=
  List.mem_append_left _ (List.mem_filterMap.2 ⟨.tmp t, h, rfl⟩)

section
variable {all : Array Oper} {o : Oper} {σ ρ : St}

theorem Same.ev (hs : Same all o σ ρ) : o.op.operands.toList.map (VE.ev ρ) = o.op.operands.toList.map (VE.ev σ) :=
  List.map_congr_left fun X hX => by
    cases X with
    | tmp t => exact hs.t t (mem_looks hX)
    | const v => rfl
    | func f => rfl
    | global g => rfl

theorem Same.reads (hs : Same all o σ ρ) : readsOf ρ o = readsOf σ o := by
  have hi : idsAll ρ o = idsAll σ o := by unfold idsAll; rw [hs.ev]
  have hh := hs.h
  unfold readsOf at hh ⊢
  rw [hi]
  cases hno : noHeap o.op with
  | true => rfl
  | false =>
  rw [hno] at hh
  cases hst : deep o.op with
  | false => rfl
  | true =>
    rw [hst] at hh
    exact reach_same 3 _ hh

theorem Same.restrict (hs : Same all o σ ρ) : VE.restrict ρ.h (readsOf ρ o) = VE.restrict σ.h (readsOf σ o) := by
  rw [hs.reads]
  funext i
  unfold VE.restrict
  cases hi : (readsOf σ o).any (Nat.beq i) with
  | false => rfl
  | true => exact hs.h i (any_beq.1 hi)

def wants (all : Array Oper) (o : Oper) (σ : St) : Option Bool :=
  match o.guard with
  | none => some true
  | some (j, want) =>
    match (all[j]?).bind (·.dst) with
    | some d => (match σ.t d with
      | .c (.v (.bool b)) => some (b == want)
      | .tup [] => some false
      | _ => none)
    | none => none

theorem Same.wants (hs : Same all o σ ρ) : VE.wants all o ρ = VE.wants all o σ := by
  unfold VE.wants
  cases hg : o.guard with
  | none => rfl
  | some gw =>
    obtain ⟨g, want⟩ := gw
    cases ht : (all[g]?).bind (·.dst) with
    | none => simp only [ht]
    | some t =>
      have : ρ.t t = σ.t t := hs.t t (List.mem_append_right _ (by simp [hg, ht]))
      simp only [ht, this]

theorem guardK_wants {go skip : St → R} {r : IV × List (Nat × Box)} (H : guardK all o σ go skip = some r) : (wants all o σ = some true ∧ go σ = some r) ∨ (wants all o σ = some false ∧ skip σ = some r) := by
  unfold guardK at H
  unfold VE.wants
  split at H
  · rename_i hg
    exact .inl ⟨by rw [hg], H⟩
  · rename_i j want hg
    rw [hg]
    split at H
    · rename_i d hd
      simp only [hd]
      split at H
      · rename_i b hb
        have hk : σ.know d b = σ := know_same hb
        simp only [hb]
        cases b <;> cases want <;> simp only [cond_true, cond_false, hk] at H <;> simp [H]
      · rename_i hb
        simp only [hb]
        exact .inr ⟨trivial, H⟩
      · cases H
    · cases H

/-! ### effects -/

def effV : Option Out → IV | some x => x.v | none => .tup []
def effH : Option Out → List (Nat × Option Box) | some x => x.ups | none => []
def effU : Option Out → List Nat | some x => x.news | none => []
def updO (f : Nat → IV) (d : Option Nat) (v : IV) : Nat → IV := match d with | some d => upd f d v | none => f
def doit (o : Oper) (e : Option Out) (σ : St) : St := ⟨updO σ.t o.dst (effV e), updMany σ.h (effH e), updMany σ.u ((effU e).map fun i => (i, true))⟩

theorem apply_doit (σ : St) (o : Oper) (x : Out) : σ.apply o.dst x = doit o (some x) σ := by
  unfold St.apply St.put doit updO
  cases o.dst <;> rfl
theorem put_doit (σ : St) (o : Oper) : σ.put o.dst (.tup []) = doit o none σ := by
  unfold St.put doit updO
  cases o.dst <;> rfl

def effS (o : Oper) (σ : St) : Option Out → Option (Nat × Nat × Nat) | some _ => storeAt o.op (o.op.operands.toList.map (VE.ev σ)) | none => none
def effM (o : Oper) (σ : St) : Option Out → Option (Nat × Nat × Bool) | some _ => mapAt o.op (o.op.operands.toList.map (VE.ev σ)) | none => none
theorem fp_eq (all : Array Oper) (o : Oper) (σ : St) (e : Option Out) : fpOf all o σ e = ⟨o.dst, o.looksAt all, readsOf σ o, (effH e).map (·.1) ++ effU e, effS o σ e, effM o σ e⟩ := by
  cases e <;> rfl

/-- Operation i of a region, from σ to σ', with the footprint f. -/
def Go1 (cfg : Cfg) (n rid : Nat) (all : Array Oper) (i : Nat) (f : Fp) (σ σ' : St) : Prop :=
  ∃ o e, all[i]? = some o ∧ dstOk n o.dst = true ∧ wants all o σ = some e.isSome ∧
    (∀ out, e = some out → (∀ k, coreK cfg (keyOf rid i) (VE.restrict σ.h (readsOf σ o)) k o.op (o.op.operands.toList.map (VE.ev σ)) = k out) ∧ ∀ j, j ∈ out.news → σ.u j = false) ∧
    f = fpOf all o σ e ∧ σ' = doit o e σ

theorem Fp.apart_spec {f g : Fp} (h : f.apart0 g = true) :
    (∀ d, f.dst = some d → d ∉ g.looks ∧ g.dst ≠ some d) ∧ (∀ d, g.dst = some d → d ∉ f.looks) ∧ (∀ i, i ∈ f.wr → i ∉ g.rd ∧ i ∉ g.wr) ∧ ∀ i, i ∈ g.wr → i ∉ f.rd := by
  unfold Fp.apart0 at h
  simp only [Bool.and_eq_true] at h
  obtain ⟨⟨⟨h1, h2⟩, h3⟩, h4⟩ := h
  refine ⟨fun d hd => ?_, fun d hd => ?_, fun i hi => ?_, fun i hi => ?_⟩
  · rw [hd] at h1
    simp only [Bool.and_eq_true] at h1
    refine ⟨not_any_beq h1.1, fun e => ?_⟩
    have := h1.2
    rw [e] at this
    simp only [Nat.beq_refl] at this
    cases this
  · rw [hd] at h2
    exact not_any_beq h2
  · have := List.all_eq_true.1 h3 i hi
    simp only [Bool.and_eq_true] at this
    exact ⟨not_any_beq this.1, not_any_beq this.2⟩
  · exact not_any_beq (List.all_eq_true.1 h4 i hi)

theorem doit_t_off {e : Option Out} {d : Nat} (h : o.dst ≠ some d) : (doit o e σ).t d = σ.t d := by
  unfold doit updO
  cases hd : o.dst with
  | none => rfl
  | some c => exact upd_other _ _ fun hc => h (by rw [hd, hc])

theorem doit_h_off {e : Option Out} {i : Nat} (h : i ∉ (effH e).map (·.1)) : (doit o e σ).h i = σ.h i := updMany_off _ _ _ h

theorem doit_comm {o' : Oper} {e e' : Option Out} (hd : ∀ d, o.dst = some d → o'.dst ≠ some d) (hw : ∀ i, i ∈ (effH e).map (·.1) ++ effU e → i ∉ (effH e').map (·.1) ++ effU e') :
    doit o' e' (doit o e σ) = doit o e (doit o' e' σ) := by
  unfold doit
  congr 1
  · unfold updO
    cases h1 : o.dst with
    | none => rfl
    | some d =>
      cases h2 : o'.dst with
      | none => rfl
      | some d' => exact upd_comm _ _ _ fun h => hd d h1 (by rw [h2, h])
  · exact updMany_comm _ _ _ fun i hi hi' => hw i (List.mem_append_left _ hi) (List.mem_append_left _ hi')
  · refine updMany_comm _ _ _ fun i hi hi' => ?_
    simp only [List.map_map, Function.comp_def, List.map_id'] at hi hi'
    exact hw i (List.mem_append_right _ hi) (List.mem_append_right _ hi')
end

section
variable {cfg : Cfg} {n rid : Nat} {all : Array Oper}

theorem Go1.swap0 {i j : Nat} {f g : Fp} {σ σ1 σ2 : St} (h1 : Go1 cfg n rid all i f σ σ1) (h2 : Go1 cfg n rid all j g σ1 σ2) (hap : f.apart0 g = true) :
    ∃ σ3, Go1 cfg n rid all j g σ σ3 ∧ Go1 cfg n rid all i f σ3 σ2 := by
  obtain ⟨a1, a2, a3, a4⟩ := Fp.apart_spec hap
  obtain ⟨o, e, ho, hdo, hw, hx, rfl, rfl⟩ := h1
  obtain ⟨p, e', hp, hdp, hw', hx', rfl, rfl⟩ := h2
  rw [fp_eq] at a1 a2 a3 a4
  simp only [fp_eq] at a1 a2 a3 a4
  -- the second sees in σ what it sees behind the first
  have s1 : Same all p (doit o e σ) σ := ⟨fun d hd => (doit_t_off fun h => (a1 d h).1 hd).symm, fun i hi => (doit_h_off fun h => (a3 i (List.mem_append_left _ h)).1 hi).symm⟩
  have s2 : Same all o σ (doit p e' σ) := ⟨fun d hd => doit_t_off fun h => a2 d h hd, fun i hi => doit_h_off fun h => a4 i (List.mem_append_left _ h) hi⟩
  refine ⟨doit p e' σ, ⟨p, e', hp, hdp, by rw [s1.wants]; exact hw', fun out h => ?_, ?_, rfl⟩, ⟨o, e, ho, hdo, by rw [s2.wants]; exact hw, fun out h => ?_, ?_, ?_⟩⟩
  · obtain ⟨c1, c2⟩ := hx' out h
    rw [s1.restrict, s1.ev]
    refine ⟨c1, fun k hk => ?_⟩
    exact updTrue_false _ _ _ (c2 k hk)
  · rw [fp_eq, fp_eq, s1.reads]
    cases e' <;> simp only [effS, effM, s1.ev]
  · obtain ⟨c1, c2⟩ := hx out h
    rw [s2.restrict, s2.ev]
    refine ⟨c1, fun k hk => ?_⟩
    have hk' : k ∉ effU e' := fun hk' => by
      subst h
      exact (a3 k (List.mem_append_right _ hk)).2 (List.mem_append_right _ hk')
    show updMany σ.u _ k = false
    rw [updMany_off _ _ _ (by simpa [Function.comp_def] using hk')]
    exact c2 k hk
  · rw [fp_eq, fp_eq, s2.reads]
    cases e <;> simp only [effS, effM, s2.ev]
  · exact doit_comm (fun d h => (a1 d h).2) fun i hi => (a3 i hi).2

/-- What a store into a box comes to. -/
theorem store_core {cfg : Cfg} {key : Nat} {hr : Nat → Option Box} {op : Op} {vals : List IV} {id off n : Nat} (hst : storeAt op vals = some (id, off, n)) {out : Out} (H : ∀ k, coreK cfg key hr k op vals = k out) :
    ∃ x ty cs, n = (cellsOf x).length ∧ hr id = some (.cells ty cs) ∧ off + n ≤ cs.length ∧ out = ⟨.c .junk, [(id, some (.cells ty (splice cs off (cellsOf x))))], []⟩ ∧
      ∀ hr' ty' cs', hr' id = some (.cells ty' cs') → off + n ≤ cs'.length → ∀ k, coreK cfg key hr' k op vals = k ⟨.c .junk, [(id, some (.cells ty' (splice cs' off (cellsOf x))))], []⟩ := by
  classical
  unfold storeAt at hst
  split at hst
  · rename_i t X Y id' off' x
    simp only [Option.some.injEq, Prod.mk.injEq] at hst
    obtain ⟨rfl, rfl, rfl⟩ := hst
    have H0 := H (fun _ => some (.tup [], []))
    have hk : ∀ (hr : Nat → Option Box) (k : Out → R), coreK cfg key hr k (.store t X Y) [.c (.ref id' off'), x] = storeK cfg hr k t (.c (.ref id' off')) x := fun _ _ => rfl
    rw [hk] at H0
    unfold storeK at H0
    obtain ⟨i, hi, H1⟩ := bindK_some H0
    obtain ⟨hc, H2⟩ := need_some H1
    have run : ∀ hr' ty' cs', hr' id' = some (.cells ty' cs') → off' + (cellsOf x).length ≤ cs'.length → ∀ k, coreK cfg key hr' k (.store t X Y) [.c (.ref id' off'), x] = k ⟨.c .junk, [(id', some (.cells ty' (splice cs' off' (cellsOf x))))], []⟩ := by
      intro hr' ty' cs' h1 h2 k
      rw [hk]
      unfold storeK
      simp only [hi, bindK, need, if_pos hc, h1]
      rw [if_pos (by rw [← hc.1]; exact h2)]
    simp only at H2
    split at H2
    · rename_i ty cs hb
      obtain ⟨hle, _⟩ := need_some H2
      rw [← hc.1] at hle
      refine ⟨x, ty, cs, rfl, hb, hle, ?_, run⟩
      have h3 := (run hr ty cs hb hle (fun o' => if o' = out then some (.tup [], []) else none)).symm.trans (H _)
      simp only [if_true] at h3
      split at h3
      · rename_i h4; exact h4.symm
      · cases h3
    · cases H2
  · cases hst

theorem splice_comm {cs v1 v2 : List IC} {o1 o2 : Nat} (h1 : o1 + v1.length ≤ cs.length) (h2 : o2 + v2.length ≤ cs.length) (h : o1 + v1.length ≤ o2 ∨ o2 + v2.length ≤ o1) :
    splice (splice cs o1 v1) o2 v2 = splice (splice cs o2 v2) o1 v1 := by
  refine List.ext_getElem? fun j => ?_
  rw [splice_get _ _ _ _ (by rw [splice_length]; exact h2), splice_get _ _ _ _ h1, splice_get _ _ _ _ (by rw [splice_length]; exact h1), splice_get _ _ _ _ h2]
  by_cases a1 : j < o1 <;> by_cases a2 : j < o1 + v1.length <;> by_cases b1 : j < o2 <;> by_cases b2 : j < o2 + v2.length <;> simp only [a1, a2, b1, b2, if_true, if_false] <;> omega

theorem storeAt_reads {o : Oper} {σ : St} {id off n : Nat} (h : storeAt o.op (o.op.operands.toList.map (VE.ev σ)) = some (id, off, n)) : (readsOf σ o).any (Nat.beq id) = true := by
  unfold storeAt at h
  split at h
  · rename_i t X Y id' off' x hop hv
    simp only [Option.some.injEq, Prod.mk.injEq] at h
    obtain ⟨rfl, rfl, rfl⟩ := h
    refine any_beq.2 ?_
    unfold readsOf
    have : deep o.op = false := by rw [hop]; rfl
    have h0 : noHeap o.op = false := by rw [hop]; rfl
    rw [h0, this, cond_false, cond_false]
    unfold idsAll
    rw [hv]
    simp [idsOf, idOf]
  · cases h

theorem Go1.swapS {i j : Nat} {f g : Fp} {σ σ1 σ2 : St} (h1 : Go1 cfg n rid all i f σ σ1) (h2 : Go1 cfg n rid all j g σ1 σ2) (hap : f.strs g = true) :
    ∃ σ3, Go1 cfg n rid all j g σ σ3 ∧ Go1 cfg n rid all i f σ3 σ2 := by
  obtain ⟨o, e, ho, hdo, hw, hx, rfl, rfl⟩ := h1
  obtain ⟨p, e', hp, hdp, hw', hx', rfl, rfl⟩ := h2
  rw [fp_eq, fp_eq] at hap
  unfold Fp.strs at hap
  simp only at hap
  split at hap
  · rename_i _ _ _ _ id off m jd off2 m2 hd1 hd2 hs1 hs2
    simp only [Bool.and_eq_true, Bool.or_eq_true] at hap
    obtain ⟨hid, hoff⟩ := hap
    have hid := Nat.eq_of_beq_eq_true hid
    subst hid
    cases e with
    | none => cases hs1
    | some out =>
    cases e' with
    | none => cases hs2
    | some out2 =>
    simp only [effS] at hs1 hs2
    obtain ⟨c1, c2⟩ := hx out rfl
    obtain ⟨c3, c4⟩ := hx' out2 rfl
    have ht : (doit o (some out) σ).t = σ.t := by unfold doit updO; rw [hd1]
    have hev : ∀ (q : Oper) (ρ τ : St), ρ.t = τ.t → q.op.operands.toList.map (VE.ev ρ) = q.op.operands.toList.map (VE.ev τ) := fun q ρ τ h => List.map_congr_left fun X _ => by
      cases X <;> first | rfl | (show ρ.t _ = τ.t _; rw [h])
    have hwn : ∀ (q : Oper) (ρ τ : St), ρ.t = τ.t → wants all q ρ = wants all q τ := fun q ρ τ h => by unfold wants; rw [h]
    obtain ⟨x1, ty1, cs1, l1, g1, g2, g3, g4⟩ := store_core hs1 c1
    have hs2' := hs2
    rw [hev p _ σ ht] at hs2' c3
    obtain ⟨x2, ty2, cs2, l2, k1, k2, k3, k4⟩ := store_core hs2' c3
    have r1 := storeAt_reads hs1
    have r2 := storeAt_reads hs2
    have r2' := storeAt_reads hs2'
    have q1 : σ.h id = some (.cells ty1 cs1) := by
      unfold VE.restrict at g1
      rw [r1] at g1
      exact g1
    have q2 : (doit o (some out) σ).h id = some (.cells ty1 (splice cs1 off (cellsOf x1))) := by
      rw [g3]
      show updMany σ.h [(id, _)] id = _
      exact upd_same _ _ _
    have q3 : ty2 = ty1 ∧ cs2 = splice cs1 off (cellsOf x1) := by
      unfold VE.restrict at k1
      rw [r2] at k1
      have := k1.symm.trans q2
      injection this with this
      injection this with a b
      exact ⟨a, b⟩
    obtain ⟨rfl, rfl⟩ := q3
    rw [splice_length] at k2
    -- the second one first
    let o2' : Out := ⟨.c .junk, [(id, some (.cells ty2 (splice cs1 off2 (cellsOf x2))))], []⟩
    let o1' : Out := ⟨.c .junk, [(id, some (.cells ty2 (splice (splice cs1 off2 (cellsOf x2)) off (cellsOf x1))))], []⟩
    have ht3 : (doit p (some o2') σ).t = σ.t := by unfold doit updO; rw [hd2]
    have q4 : (doit p (some o2') σ).h id = some (.cells ty2 (splice cs1 off2 (cellsOf x2))) := upd_same _ _ _
    refine ⟨doit p (some o2') σ, ⟨p, some o2', hp, hdp, by rw [← hwn p _ _ ht]; exact hw', fun out' h => ?_, ?_, rfl⟩, ⟨o, some o1', ho, hdo, by rw [hwn o _ _ ht3]; exact hw, fun out' h => ?_, ?_, ?_⟩⟩
    · simp only [Option.some.injEq] at h
      subst h
      refine ⟨k4 _ ty2 cs1 ?_ k2, fun i hi => by cases hi⟩
      unfold VE.restrict
      rw [r2']
      exact q1
    · rw [fp_eq, fp_eq]
      have e1 : readsOf (doit o (some out) σ) p = readsOf σ p := by
        have hp1 : deep p.op = false ∧ noHeap p.op = false := by
          unfold storeAt at hs2
          split at hs2
          · rename_i hop _; rw [hop]; exact ⟨rfl, rfl⟩
          · cases hs2
        unfold readsOf idsAll
        rw [hp1.1, hp1.2, cond_false, cond_false, hev p _ σ ht, cond_false, cond_false]
      rw [e1]
      simp only [effS, effM, effH, effU, k3, o2', hev p _ σ ht]
      rfl
    · simp only [Option.some.injEq] at h
      subst h
      refine ⟨?_, fun i hi => by cases hi⟩
      rw [hev o _ σ ht3]
      refine g4 _ ty2 _ ?_ (by rw [splice_length]; exact g2)
      unfold VE.restrict
      have hp1 : deep o.op = false ∧ noHeap o.op = false := by
        unfold storeAt at hs1
        split at hs1
        · rename_i hop _; rw [hop]; exact ⟨rfl, rfl⟩
        · cases hs1
      have e1 : readsOf (doit p (some o2') σ) o = readsOf σ o := by
        unfold readsOf idsAll
        rw [hp1.1, hp1.2, cond_false, cond_false, hev o _ σ ht3, cond_false, cond_false]
      rw [e1, r1]
      exact q4
    · rw [fp_eq, fp_eq]
      have hp1 : deep o.op = false ∧ noHeap o.op = false := by
        unfold storeAt at hs1
        split at hs1
        · rename_i hop _; rw [hop]; exact ⟨rfl, rfl⟩
        · cases hs1
      have e1 : readsOf (doit p (some o2') σ) o = readsOf σ o := by
        unfold readsOf idsAll
        rw [hp1.1, hp1.2, cond_false, cond_false, hev o _ σ ht3, cond_false, cond_false]
      rw [e1]
      simp only [effS, effM, effH, effU, g3, o1', hev o _ σ ht3]
      rfl
    · have hsp := splice_comm (cs := cs1) (v1 := cellsOf x1) (v2 := cellsOf x2) (o1 := off) (o2 := off2) (by rw [← l1]; exact g2) (by rw [← l2]; exact k2) (by
        rw [← l1, ← l2]
        rcases hoff with h | h
        · exact .inl (Nat.le_of_ble_eq_true h)
        · exact .inr (Nat.le_of_ble_eq_true h))
      rw [k3, g3]
      show doit p (some ⟨.c .junk, [(id, some (.cells ty2 (splice (splice cs1 off (cellsOf x1)) off2 (cellsOf x2))))], []⟩) (doit o (some ⟨.c .junk, [(id, some (.cells ty2 (splice cs1 off (cellsOf x1))))], []⟩) σ) = doit o (some o1') (doit p (some o2') σ)
      unfold doit updO
      rw [hd1, hd2]
      simp only [effH, effU, updMany, List.map_nil, o1', o2']
      congr 1
      funext z
      by_cases hz : z = id
      · subst hz
        rw [upd_same, upd_same, hsp]
      · rw [upd_other _ _ hz, upd_other _ _ hz, upd_other _ _ hz, upd_other _ _ hz]
  · cases hap

/-! ### a look into a map, and room made in it -/

theorem getE_room {κ τ : Ty} (z : El τ) (c : Nat) (a b : El κ) : ∀ es : Ents κ τ, getE κ τ z a (setE κ τ c b (getE κ τ z b es) es) = getE κ τ z a es
  | [] => by
    show (bif eqEl κ a b then z else z) = z
    cases eqEl κ a b <;> rfl
  | e :: r => by
    have ih := getE_room z c a b r
    have e0 : ∀ v, setE κ τ c b v (e :: r) = bif eqEl κ b e.1 then (e.1, v, e.2.2) :: r else e :: setE κ τ c b v r := fun _ => rfl
    have e1 : getE κ τ z b (e :: r) = bif eqEl κ b e.1 then e.2.1 else getE κ τ z b r := rfl
    rw [e0, e1]
    cases eqEl κ b e.1 with
    | true => rfl
    | false =>
      have e2 : ∀ r', getE κ τ z a (e :: r') = bif eqEl κ a e.1 then e.2.1 else getE κ τ z a r' := fun _ => rfl
      rw [cond_false, cond_false, e2, e2, ih]

theorem out_eq {X Y : Out} (h : ∀ k : Out → R, k X = k Y) : X = Y := by
  classical
  have h3 := h (fun o' => if o' = Y then some (.tup [], []) else none)
  simp only [if_true] at h3
  split at h3
  · assumption
  · cases h3

theorem mapK_run {cfg : Cfg} {hr : Nat → Option Box} {t : Nat} {m x : IV} {F : (κ τ : Ty) → Nat → Ents κ τ → Nat → El κ → El τ → R} {r : IV × List (Nat × Box)} (H : mapK cfg hr t m x F = some r) {id : Nat} (hm : m = .c (.mref id)) :
    ∃ (κ τ : Ty) (es : Ents κ τ) (c : Nat) (a : El κ) (z : El τ), hr id = some (.map κ τ es c) ∧ (∃ kt et ie, dOf cfg.ty t = some (.map kt et) ∧ cfg.ty et = some ie ∧ dec1 τ ie.zero = some z) ∧
      ∀ (hr' : Nat → Option Box) (es' : Ents κ τ) (c' : Nat) (F' : (κ τ : Ty) → Nat → Ents κ τ → Nat → El κ → El τ → R), hr' id = some (.map κ τ es' c') → mapK cfg hr' t m x F' = F' κ τ id es' c' a z := by
  subst hm
  unfold mapK at H
  split at H
  · rename_i kt et id' hd heq
    simp only [IV.c.injEq, IC.mref.injEq] at heq
    subst heq
    split at H
    · rename_i κ τ es c hb
      obtain ⟨kd, hkd, H⟩ := bindK_some H
      obtain ⟨ie, hie, H⟩ := bindK_some H
      obtain ⟨z, hz, H⟩ := bindK_some H
      obtain ⟨a, ha, H⟩ := bindK_some H
      obtain ⟨hc, H⟩ := need_some H
      refine ⟨κ, τ, es, c, a, z, hb, ⟨kt, et, ie, hd, hie, hz⟩, fun hr' es' c' F' h1 => ?_⟩
      unfold mapK
      simp only [hd, h1, hkd, hie, hz, ha, bindK, need, if_pos hc]
    · cases H
  · cases H

theorem look_core {cfg : Cfg} {key : Nat} {hr : Nat → Option Box} {op : Op} {vals : List IV} {t id : Nat} (hst : mapAt op vals = some (t, id, false)) {out : Out} (H : ∀ k, coreK cfg key hr k op vals = k out) :
    ∃ (κ τ : Ty) (es : Ents κ τ) (c : Nat) (a : El κ) (z : El τ), hr id = some (.map κ τ es c) ∧ (∃ kt et ie, dOf cfg.ty t = some (.map kt et) ∧ cfg.ty et = some ie ∧ dec1 τ ie.zero = some z) ∧ out = ⟨mkIV false (enc τ (getE κ τ z a es)), [], []⟩ ∧
      ∀ (hr' : Nat → Option Box) (es' : Ents κ τ) (c' : Nat), hr' id = some (.map κ τ es' c') → ∀ k, coreK cfg key hr' k op vals = k ⟨mkIV false (enc τ (getE κ τ z a es')), [], []⟩ := by
  unfold mapAt at hst
  split at hst
  · rename_i t' X Y id' x
    simp only [Option.some.injEq, Prod.mk.injEq, and_true] at hst
    obtain ⟨rfl, rfl⟩ := hst
    have hk : ∀ (hr : Nat → Option Box) (k : Out → R), coreK cfg key hr k (.lookup t' X Y false) [.c (.mref id'), x] = lookupK cfg hr k t' (.c (.mref id')) x false := fun _ _ => rfl
    have H0 := H (fun _ => some (.tup [], []))
    rw [hk] at H0
    unfold lookupK at H0
    obtain ⟨κ, τ, es, c, a, z, h1, h2, h3⟩ := mapK_run H0 rfl
    have run : ∀ (hr' : Nat → Option Box) (es' : Ents κ τ) (c' : Nat), hr' id' = some (.map κ τ es' c') → ∀ k, coreK cfg key hr' k (.lookup t' X Y false) [.c (.mref id'), x] = k ⟨mkIV false (enc τ (getE κ τ z a es')), [], []⟩ := fun hr' es' c' h k => by
      rw [hk]
      unfold lookupK
      rw [h3 hr' es' c' _ h]
      rfl
    exact ⟨κ, τ, es, c, a, z, h1, h2, (out_eq fun k => (run hr es c h1 k).symm.trans (H k)).symm, run⟩
  · simp at hst
  · cases hst

theorem room_core {cfg : Cfg} {key : Nat} {hr : Nat → Option Box} {op : Op} {vals : List IV} {t id : Nat} (hst : mapAt op vals = some (t, id, true)) {out : Out} (H : ∀ k, coreK cfg key hr k op vals = k out) :
    ∃ (κ τ : Ty) (es : Ents κ τ) (c : Nat) (a : El κ) (z : El τ), hr id = some (.map κ τ es c) ∧ (∃ kt et ie, dOf cfg.ty t = some (.map kt et) ∧ cfg.ty et = some ie ∧ dec1 τ ie.zero = some z) ∧
      out.ups = [(id, some (.map κ τ (setE κ τ c a (getE κ τ z a es) es) (clockE κ τ c a es)))] ∧ out.news = [] := by
  unfold mapAt at hst
  split at hst
  · simp at hst
  · rename_i t' X Y id' x
    simp only [Option.some.injEq, Prod.mk.injEq, and_true] at hst
    obtain ⟨rfl, rfl⟩ := hst
    have hk : ∀ (hr : Nat → Option Box) (k : Out → R), coreK cfg key hr k (.mapEntry t' X Y) [.c (.mref id'), x] = mapEntryK cfg hr k t' (.c (.mref id')) x := fun _ _ => rfl
    have H0 := H (fun _ => some (.tup [], []))
    rw [hk] at H0
    unfold mapEntryK at H0
    obtain ⟨κ, τ, es, c, a, z, h1, h2, h3⟩ := mapK_run H0 rfl
    have run : ∀ k, coreK cfg key hr k (.mapEntry t' X Y) [.c (.mref id'), x] = k ⟨.tup [mkIV false (enc τ (getE κ τ z a es)), vi .i64 (bornE κ τ c a es : Int)], [(id', some (.map κ τ (setE κ τ c a (getE κ τ z a es) es) (clockE κ τ c a es)))], []⟩ := fun k => by
      rw [hk]
      unfold mapEntryK
      rw [h3 hr es c _ h1]
    have he := out_eq fun k => (run k).symm.trans (H k)
    rw [← he]
    exact ⟨κ, τ, es, c, a, z, h1, h2, rfl, rfl⟩
  · cases hst

theorem mapAt_reads {o : Oper} {σ : St} {t id : Nat} {b : Bool} (h : mapAt o.op (o.op.operands.toList.map (VE.ev σ)) = some (t, id, b)) : (readsOf σ o).any (Nat.beq id) = true ∧ deep o.op = false := by
  unfold mapAt at h
  split at h
  · rename_i t' X Y id' x hop hv
    simp only [Option.some.injEq, Prod.mk.injEq] at h
    obtain ⟨rfl, rfl, rfl⟩ := h
    have hd : deep o.op = false := by rw [hop]; rfl
    have h0 : noHeap o.op = false := by rw [hop]; rfl
    refine ⟨any_beq.2 ?_, hd⟩
    unfold readsOf
    rw [h0, hd, cond_false, cond_false]
    unfold idsAll
    rw [hv]
    simp [idsOf, idOf]
  · rename_i t' X Y id' x hop hv
    simp only [Option.some.injEq, Prod.mk.injEq] at h
    obtain ⟨rfl, rfl, rfl⟩ := h
    have hd : deep o.op = false := by rw [hop]; rfl
    have h0 : noHeap o.op = false := by rw [hop]; rfl
    refine ⟨any_beq.2 ?_, hd⟩
    unfold readsOf
    rw [h0, hd, cond_false, cond_false]
    unfold idsAll
    rw [hv]
    simp [idsOf, idOf]
  · cases h

theorem Go1.swapM {i j : Nat} {f g : Fp} {σ σ1 σ2 : St} (h1 : Go1 cfg n rid all i f σ σ1) (h2 : Go1 cfg n rid all j g σ1 σ2) (hap : f.mps g = true) :
    ∃ σ3, Go1 cfg n rid all j g σ σ3 ∧ Go1 cfg n rid all i f σ3 σ2 := by
  obtain ⟨o, e, ho, hdo, hw, hx, rfl, rfl⟩ := h1
  obtain ⟨p, e', hp, hdp, hw', hx', rfl, rfl⟩ := h2
  rw [fp_eq, fp_eq] at hap
  unfold Fp.mps at hap
  simp only at hap
  split at hap
  · rename_i _ _ _ _ d d' t id t2 id2 hd1 hd2 hs1 hs2
    simp only [Bool.and_eq_true] at hap
    obtain ⟨⟨ht, hid⟩, hl1, hne, hl2⟩ := hap
    have ht := Nat.eq_of_beq_eq_true ht
    have hid := Nat.eq_of_beq_eq_true hid
    subst ht hid
    have hl1 := not_any_beq hl1
    have hl2 := not_any_beq hl2
    have hne : d ≠ d' := fun h => by rw [h, Nat.beq_refl] at hne; cases hne
    cases e with
    | none => cases hs1
    | some out =>
    cases e' with
    | none => cases hs2
    | some out2 =>
    simp only [effM] at hs1 hs2
    obtain ⟨c1, c2⟩ := hx out rfl
    obtain ⟨c3, c4⟩ := hx' out2 rfl
    obtain ⟨κ, τ, es, c, a, z, g1, ⟨kt, et, ie, g2, g3, g4⟩, g5, g6⟩ := look_core hs1 c1
    have hh : (doit o (some out) σ).h = σ.h := by rw [g5]; rfl
    have s1 : Same all p (doit o (some out) σ) σ := ⟨fun q hq => (doit_t_off fun h => hl1 (by rw [hd1] at h; injection h with h; rw [h]; exact hq)).symm, fun i hi => (congrFun hh i).symm⟩
    obtain ⟨κ2, τ2, es2, cc2, a2, z2, k1, ⟨kt2, et2, ie2, k2, k3, k4⟩, k5, k6⟩ := room_core hs2 c3
    obtain ⟨r1, dp1⟩ := mapAt_reads hs1
    obtain ⟨r2, dp2⟩ := mapAt_reads hs2
    have q1 : σ.h id = some (.map κ τ es c) := by
      unfold VE.restrict at g1
      rw [r1] at g1
      exact g1
    have q2 : σ.h id = some (.map κ2 τ2 es2 cc2) := by
      unfold VE.restrict at k1
      rw [r2] at k1
      rw [hh] at k1
      exact k1
    have q3 := q1.symm.trans q2
    injection q3 with q3
    injection q3 with e1 e2 e3 e4
    subst e1 e2
    have e3 := eq_of_heq e3
    subst e3 e4
    have ez : z2 = z := by
      rw [g2] at k2
      injection k2 with k2
      injection k2 with _ k2
      subst k2
      rw [g3] at k3
      injection k3 with k3
      subst k3
      rw [g4] at k4
      injection k4 with k4
      exact k4.symm
    subst ez
    let σ3 : St := doit p (some out2) σ
    have q4 : σ3.h id = some (.map κ τ (setE κ τ c a2 (getE κ τ z2 a2 es) es) (clockE κ τ c a2 es)) := by
      show updMany σ.h out2.ups id = _
      rw [k5]
      exact upd_same _ _ _
    let ρ : St := ⟨σ3.t, σ.h, σ.u⟩
    have s2 : Same all o σ ρ := ⟨fun q hq => doit_t_off (o := p) (e := some out2) fun h => hl2 (by rw [hd2] at h; injection h with h; rw [h]; exact hq), fun _ _ => rfl⟩
    have hrd : readsOf σ3 o = readsOf σ o := by
      rw [← s2.reads]
      unfold readsOf
      rw [dp1]
      rfl
    have hev : o.op.operands.toList.map (VE.ev σ3) = o.op.operands.toList.map (VE.ev σ) := by
      rw [← s2.ev]
      exact List.map_congr_left fun X _ => by cases X <;> rfl
    have hwn : wants all o σ3 = wants all o σ := by
      rw [← s2.wants]
      rfl
    refine ⟨σ3, ⟨p, some out2, hp, hdp, by rw [s1.wants]; exact hw', fun out' h => ?_, ?_, rfl⟩, ⟨o, some out, ho, hdo, by rw [hwn]; exact hw, fun out' h => ?_, ?_, ?_⟩⟩
    · simp only [Option.some.injEq] at h
      subst h
      rw [s1.restrict, s1.ev]
      exact ⟨c3, fun k hk => by rw [k6] at hk; cases hk⟩
    · rw [fp_eq, fp_eq, s1.reads]
      simp only [effS, effM, s1.ev]
    · simp only [Option.some.injEq] at h
      subst h
      refine ⟨fun k => ?_, fun k hk => by rw [g5] at hk; cases hk⟩
      rw [hrd, hev, g6 _ (setE κ τ c a2 (getE κ τ z2 a2 es) es) (clockE κ τ c a2 es) (by unfold VE.restrict; rw [r1]; exact q4) k, getE_room, ← g5]
    · rw [fp_eq, fp_eq, hrd]
      simp only [effS, effM, hev]
    · refine doit_comm (fun q hq h => hne ?_) fun i hi => ?_
      · rw [hd1] at hq
        rw [hd2] at h
        injection hq with hq
        injection h with h
        rw [hq, h]
      · rw [g5] at hi
        cases hi
  · cases hap

theorem Go1.swap {i j : Nat} {f g : Fp} {σ σ1 σ2 : St} (h1 : Go1 cfg n rid all i f σ σ1) (h2 : Go1 cfg n rid all j g σ1 σ2) (hap : f.apart g = true) :
    ∃ σ3, Go1 cfg n rid all j g σ σ3 ∧ Go1 cfg n rid all i f σ3 σ2 := by
  unfold Fp.apart at hap
  simp only [Bool.or_eq_true] at hap
  rcases hap with (h | h) | h
  · exact h1.swap0 h2 h
  · exact h1.swapS h2 h
  · exact h1.swapM h2 h

def Chain (cfg : Cfg) (n rid : Nat) (all : Array Oper) : List (Nat × Fp) → St → St → Prop
  | [], σ, τ => τ = σ
  | (i, f) :: l, σ, τ => ∃ σ1, Go1 cfg n rid all i f σ σ1 ∧ Chain cfg n rid all l σ1 τ

theorem Chain.front {j : Nat} {g : Fp} {post : List (Nat × Fp)} {τ : St} : ∀ (pre : List (Nat × Fp)) (σ : St), Chain cfg n rid all (pre ++ (j, g) :: post) σ τ → (∀ p, p ∈ pre → p.2.apart g = true) →
    ∃ σ', Go1 cfg n rid all j g σ σ' ∧ Chain cfg n rid all (pre ++ post) σ' τ
  | [], σ, h, _ => h
  | (i, f) :: pre, σ, ⟨σ1, h1, h2⟩, hap => by
    obtain ⟨σ2, g1, g2⟩ := Chain.front pre σ1 h2 fun p hp => hap p (List.mem_cons_of_mem _ hp)
    obtain ⟨σ3, k1, k2⟩ := h1.swap g1 (hap (i, f) (List.mem_cons_self ..))
    exact ⟨σ3, k1, σ2, k2, g2⟩

/-! ### from the text's order to every order -/

def inA (m j : Nat) : Prop := Nat.testBit m j = true

def ancsTo (all : Array Oper) : Nat → List Nat
  | 0 => []
  | i + 1 => (match all[i]? with | some o => ancOf o i (ancsTo all i) | none => 0) :: ancsTo all i

def ancAt (all : Array Oper) (i : Nat) : Nat := match all[i]? with | some o => ancOf o i (ancsTo all i) | none => 0

theorem ancsTo_getD (all : Array Oper) : ∀ (i j : Nat), j < i → (ancsTo all i).getD (i - 1 - j) 0 = ancAt all j
  | i + 1, j, h => by
    by_cases e : j = i
    · subst e
      simp [ancsTo, ancAt]
    · have hlt : j < i := by omega
      have : i + 1 - 1 - j = (i - 1 - j) + 1 := by omega
      rw [this]
      simp only [ancsTo, List.getD_cons_succ]
      exact ancsTo_getD all i j hlt

theorem mem_ancOf {o : Oper} {i : Nat} {ancs : List Nat} {p : Nat} (h : inA (ancOf o i ancs) p) : ∃ e, e ∈ o.after.toList ∧ Region.binds .any e = true ∧ (p = e.on ∨ inA (ancs.getD (i - 1 - e.on) 0) p) := by
  unfold ancOf at h
  generalize o.after.toList = l at h
  induction l with
  | nil => simp [inA] at h
  | cons a r ih =>
    simp only [List.foldr_cons] at h
    cases hb : Region.binds .any a with
    | false =>
      rw [hb] at h
      obtain ⟨e, h1, h2⟩ := ih h
      exact ⟨e, List.mem_cons_of_mem _ h1, h2⟩
    | true =>
      rw [hb] at h
      have h : Nat.testBit ((1 <<< a.on ||| ancs.getD (i - 1 - a.on) 0) ||| List.foldr (fun e r => bif Region.binds .any e then Nat.lor (Nat.lor (Nat.shiftLeft 1 e.on) (ancs.getD (i - 1 - e.on) 0)) r else r) 0 r) p = true := h
      rw [Nat.testBit_or, Nat.testBit_or, Nat.one_shiftLeft, Nat.testBit_two_pow, Bool.or_eq_true, Bool.or_eq_true, decide_eq_true_eq] at h
      rcases h with (h | h) | h
      · exact ⟨a, List.mem_cons_self .., hb, .inl h.symm⟩
      · exact ⟨a, List.mem_cons_self .., hb, .inr h⟩
      · obtain ⟨e, h1, h2⟩ := ih h
        exact ⟨e, List.mem_cons_of_mem _ h1, h2⟩

structure Ord (all : Array Oper) (L : List (Nat × Fp)) : Prop where
  pw : L.Pairwise fun p q => p.1 < q.1 ∧ (inA (ancAt all q.1) p.1 ∨ p.2.apart q.2 = true)
  edges : ∀ p, p ∈ L → ∀ o, all[p.1]? = some o → ∀ e, e ∈ o.after → Region.binds .any e = true → e.on < p.1

theorem drawOk_spec {o : Oper} {i : Nat} {anc : Nat} {fps : List Fp} {f : Fp} (h : drawOk o i anc fps f = true) :
    (∀ e, e ∈ o.after → Region.binds .any e = true → e.on < i) ∧ ∀ j, j < i → inA anc j ∨ ∃ g, fps[i - 1 - j]? = some g ∧ g.apart f = true := by
  unfold drawOk at h
  simp only [Bool.and_eq_true] at h
  refine ⟨fun e he hb => ?_, fun j hj => ?_⟩
  · have := Array.all_eq_true_iff_forall_mem.1 h.1 e he
    rw [hb] at this
    exact Nat.le_of_ble_eq_true this
  · have := List.all_eq_true.1 h.2 j (List.mem_range.2 hj)
    simp only [Bool.or_eq_true] at this
    rcases this with h1 | h1
    · exact .inl h1
    · right
      split at h1
      · rename_i g hg
        exact ⟨g, hg, h1⟩
      · cases h1

/-- The text's run of a draw region, as a chain. -/
theorem drawK_chain {P : Program} (hcfg : CfgOK P cfg) {k : St → R} {r : IV × List (Nat × Box)} : ∀ (rest : List Oper) (i : Nat) (fps : List Fp) (σ : St), all.toList.drop i = rest → fps.length = i →
    drawK cfg n rid all rest i (ancsTo all i) fps σ k = some r →
    ∃ L τ, Chain cfg n rid all L σ τ ∧ k τ = some r ∧ L.map (·.1) = List.range' i rest.length ∧
      (∀ q, q ∈ L → ∀ j, j < i → inA (ancAt all q.1) j ∨ ∃ g, fps[i - 1 - j]? = some g ∧ g.apart q.2 = true) ∧ Ord all L
  | [], i, fps, σ, _, _, H => ⟨[], σ, rfl, H, rfl, fun q hq => (by cases hq), ⟨.nil, fun p hp => (by cases hp)⟩⟩
  | o :: rest, i, fps, σ, hdrop, hlen, H => by
    have hi : all[i]? = some o := by
      have h1 : (all.toList.drop i)[0]? = some o := by rw [hdrop]; rfl
      rw [List.getElem?_drop] at h1
      simpa using h1
    have hdrop' : all.toList.drop (i + 1) = rest := by
      have h1 : (all.toList.drop i).drop 1 = rest := by rw [hdrop]; rfl
      rwa [List.drop_drop] at h1
    have hanc : ancAt all i = ancOf o i (ancsTo all i) := by simp only [ancAt, hi]
    have hnext : ancsTo all (i + 1) = ancOf o i (ancsTo all i) :: ancsTo all i := by simp only [ancsTo, hi]
    -- both ways come to this
    have key : ∃ (e : Option Out), dstOk n o.dst = true ∧ wants all o σ = some e.isSome ∧
        (∀ out, e = some out → (∀ k, coreK cfg (keyOf rid i) (VE.restrict σ.h (readsOf σ o)) k o.op (o.op.operands.toList.map (VE.ev σ)) = k out) ∧ ∀ j, j ∈ out.news → σ.u j = false) ∧
        drawOk o i (ancOf o i (ancsTo all i)) fps (fpOf all o σ e) = true ∧
        drawK cfg n rid all rest (i + 1) (ancsTo all (i + 1)) (fpOf all o σ e :: fps) (doit o e σ) k = some r := by
      rw [hnext]
      unfold drawK at H
      rcases guardK_wants H with ⟨hw, H1⟩ | ⟨hw, H1⟩
      · unfold stepK at H1
        obtain ⟨hd, H2⟩ := test_some H1
        obtain ⟨out, hdet⟩ := core_det hcfg _ _ _ _ _ _ H2
        obtain ⟨hf, H3⟩ := test_some ((hdet _).symm.trans H2)
        obtain ⟨hok, H4⟩ := test_some H3
        refine ⟨some out, hd, hw, fun out' e => ?_, hok, by rw [← apply_doit]; exact H4⟩
        cases e
        refine ⟨hdet, fun j hj => ?_⟩
        have := List.all_eq_true.1 hf j hj
        simpa using this
      · obtain ⟨hd, H2⟩ := test_some H1
        simp only [Bool.and_eq_true] at hd
        exact ⟨none, hd.1, hw, fun out e => (by cases e), hd.2, by rw [← put_doit]; exact H2⟩
    obtain ⟨e, hd, hw, hx, hok, H2⟩ := key
    obtain ⟨ok1, ok2⟩ := drawOk_spec hok
    obtain ⟨L, τ, c1, c2, c3, c4, c5⟩ := drawK_chain hcfg rest (i + 1) (fpOf all o σ e :: fps) _ hdrop' (by simp [hlen]) H2
    refine ⟨(i, fpOf all o σ e) :: L, τ, ⟨_, ⟨o, e, hi, hd, hw, hx, rfl, rfl⟩, c1⟩, c2, ?_, ?_, ⟨?_, ?_⟩⟩
    · simp [c3, List.range'_succ]
    · intro q hq j hj
      rcases List.mem_cons.1 hq with rfl | hq
      · rw [hanc]
        exact ok2 j hj
      · rcases c4 q hq j (by omega) with h | ⟨g, hg, ha⟩
        · exact .inl h
        · refine .inr ⟨g, ?_, ha⟩
          have : i + 1 - 1 - j = (i - 1 - j) + 1 := by omega
          rw [this] at hg
          simpa using hg
    · refine List.pairwise_cons.2 ⟨fun q hq => ⟨?_, ?_⟩, c5.pw⟩
      · have : q.1 ∈ L.map (·.1) := List.mem_map_of_mem hq
        rw [c3, List.mem_range'_1] at this
        omega
      · rcases c4 q hq i (by omega) with h | ⟨g, hg, ha⟩
        · exact .inl h
        · have : i + 1 - 1 - i = 0 := by omega
          rw [this] at hg
          simp at hg
          subst hg
          exact .inr ha
    · intro p hp o' ho' ed hed hb
      rcases List.mem_cons.1 hp with rfl | hp
      · rw [hi] at ho'
        cases ho'
        exact ok1 ed hed hb
      · exact c5.edges p hp o' ho' ed hed hb

end

section
variable {P : Program} {cfg : Cfg} {M : Nat → Prop} {B : Nat} {O : Nat → Nat → Prop} {n rid : Nat} {all : Array Oper} {x : Xs} {σ : St} {a : Act} {w : World} {r : IV × List (Nat × Box)}

theorem wants_sound {o : Oper} {b : Bool} (rel : Rel M B O n x σ a w) (h : wants all o σ = some b) : Region.wanted o (yielded all a.tmps) = b := by
  have H : guardK all o σ (fun _ => some (.tup [], [])) (fun _ => some (.tup [], [(0, .ice 0 [])])) = (if b then some (.tup [], []) else some (.tup [], [(0, .ice 0 [])])) := by
    unfold VE.wants at h
    unfold guardK
    split at h
    · rename_i hg; cases h; simp only [hg]; rfl
    · rename_i j want hg
      simp only [hg]
      split at h
      · rename_i d hd
        simp only [hd]
        split at h
        · rename_i c hc
          simp only [hc]
          cases h
          cases c <;> cases want <;> rfl
        · rename_i hc
          simp only [hc]
          cases h
          rfl
        · cases h
      · cases h
  cases b
  · rcases guardK_sound rel H with ⟨h1, _⟩ | ⟨_, h1⟩
    · simp at h1
    · exact h1
  · rcases guardK_sound rel H with ⟨_, h1⟩ | ⟨h1, _⟩
    · exact h1
    · simp at h1

theorem Go1.sound (hcfg : CfgOK P cfg) {i : Nat} {f : Fp} {σ' : St} (rel : Rel M B O n x σ a w) (h : Go1 cfg n rid all i f σ σ') {Q : Exit → Act → World → Prop} {K : Act → World → Prop}
    (hn : ∀ x' a' w', Ext x w x' w' → Fr M B w w' → Rel M B O n x' σ' a' w' → K a' w') : wpOp P all Q i K a w := by
  obtain ⟨o, e, ho, hd, hw, hx, _, rfl⟩ := h
  unfold wpOp
  simp only [ho, wants_sound rel hw]
  cases e with
  | none =>
    simp only [Option.isSome_none, Bool.false_eq_true, if_false]
    refine hn x _ w (Ext.refl _ _) (Fr.refl _ _ _) ?_
    rw [← put_doit]
    exact rel.put (Ext.refl x w) rel.heap hd (undef_rel x w)
  | some out =>
    simp only [Option.isSome_some, if_true]
    left
    obtain ⟨c1, c2⟩ := hx out rfl
    refine core_out hcfg rel.heap (restrict_sub _ _) (o := o) (a := a) (by simp) (fun j y hy => ?_) c1 c2 _ _ fun v w' x' he hfr hh hv => ?_
    · rw [List.getElem?_map] at hy
      cases hj : o.op.operands.toList[j]? with
      | none => simp [hj] at hy
      | some X =>
        simp [hj] at hy; subst hy
        have := rel.ev X
        have e : (o.op.operands.toList.map a.eval).getD j undef = a.eval X := by simp only [List.getD, List.getElem?_map, hj, Option.map_some, Option.getD_some]
        rw [e]; exact this
    · refine hn x' _ w' he hfr ?_
      rw [← apply_doit]
      exact rel.put he hh hd hv

theorem getD_set_self {l : Array Bool} {i : Nat} (h : i < l.size) : (l.setIfInBounds i true).getD i false = true := by simp [h]

theorem chain_any (hcfg : CfgOK P cfg) {Q : Exit → Act → World → Prop} {τ : St} (x0 : Xs) (w0 : World)
    (hq : ∀ x' a' w', Ext x0 w0 x' w' → Fr M B w0 w' → Rel M B O n x' τ a' w' → Q .normal a' w') :
    ∀ (m : Nat) (L : List (Nat × Fp)) (listed : Array Bool) (x : Xs) (σ : St) (a : Act) (w : World), L.length = m → listed.size = all.size → Ord all L →
      (∀ i, i < all.size → (listed.getD i false = false ↔ i ∈ L.map (·.1))) →
      (∀ i, i < all.size → listed.getD i false = true → ∀ p, inA (ancAt all i) p → listed.getD p false = true) →
      (∀ p, p ∈ L → p.1 < all.size) → (∀ (i : Nat) (e : Edge) (o : Oper), all[i]? = some o → e ∈ o.after → Region.binds .any e = true → e.on < i) →
      Ext x0 w0 x w → Fr M B w0 w → Rel M B O n x σ a w → Chain cfg n rid all L σ τ → wpAny P .any all Q m listed a w := by
  intro m
  induction m with
  | zero =>
    intro L listed x σ a w hm hsz hord hL hdown hin hedge he hf rel hc
    have : L = [] := List.length_eq_zero_iff.1 hm
    subst this
    refine ⟨?_, ?_⟩
    · apply List.eq_nil_iff_forall_not_mem.2
      intro i hi
      obtain ⟨h0, o, ho, _⟩ := mem_ready.1 hi
      have hlt : i < all.size := (Array.getElem?_eq_some_iff.1 ho).1
      have h1 := (hL i hlt).1 (by
        have : i < listed.size := by omega
        simp only [Array.getD_eq_getD_getElem?, Array.getElem?_eq_getElem this, Option.getD_some] at h0 ⊢
        exact h0)
      simp at h1
    · have : τ = σ := hc
      subst this
      exact hq x a w he hf rel
  | succ m ih =>
    intro L listed x σ a w hm hsz hord hL hdown hin hedge he hf rel hc
    have gd : ∀ i, i < all.size → listed.getD i true = listed.getD i false := fun i hi => by
      have : i < listed.size := by omega
      simp [Array.getD_eq_getD_getElem?, Array.getElem?_eq_getElem this]
    refine ⟨fun hr => ?_, fun j hj => ?_⟩
    · -- the first of what is left is ready
      exfalso
      cases L with
      | nil => simp at hm
      | cons p L =>
        obtain ⟨i, f⟩ := p
        obtain ⟨σ1, ⟨o, e, ho, _⟩, _⟩ := hc
        have hlt : i < all.size := hin (i, f) (List.mem_cons_self ..)
        have : i ∈ Region.ready .any all listed := by
          refine mem_ready.2 ⟨?_, o, ho, fun e he hb => ?_⟩
          · rw [gd i hlt]
            exact (hL i hlt).2 (by simp)
          · have hlt' := hedge i e o ho he hb
            cases hv : listed.getD e.on false with
            | true => rfl
            | false =>
              have h1 := (hL e.on (by omega)).1 hv
              rw [List.map_cons, List.mem_cons] at h1
              rcases h1 with h1 | h1
              · simp at h1; omega
              · obtain ⟨q, hq, hqe⟩ := List.mem_map.1 h1
                have := ((List.pairwise_cons.1 hord.pw).1 q hq).1
                simp at this
                omega
        rw [hr] at this
        cases this
    · obtain ⟨h0, o, ho, hall⟩ := mem_ready.1 hj
      have hlt : j < all.size := (Array.getElem?_eq_some_iff.1 ho).1
      rw [gd j hlt] at h0
      obtain ⟨q, hq, hqj⟩ := List.mem_map.1 ((hL j hlt).1 h0)
      obtain ⟨j', g⟩ := q
      simp only at hqj
      subst hqj
      obtain ⟨pre, post, rfl⟩ := List.append_of_mem hq
      have hanc : ∀ p, inA (ancAt all j') p → listed.getD p false = true := by
        intro p hp
        unfold ancAt at hp
        rw [ho] at hp
        obtain ⟨e, he', hb, hp⟩ := mem_ancOf hp
        have he2 : e ∈ o.after := by simpa using he'
        have hlt2 := hedge j' e o ho he2 hb
        have hon := hall e he2 hb
        rcases hp with rfl | hp
        · exact hon
        · rw [ancsTo_getD all j' e.on hlt2] at hp
          exact hdown e.on (by omega) hon p hp
      have hpw := hord.pw
      rw [List.pairwise_append] at hpw
      have hpre : ∀ p, p ∈ pre → p.2.apart g = true := fun p hp => by
        rcases (hpw.2.2 p hp (j', g) (List.mem_cons_self ..)).2 with h | h
        · have h1 := hanc p.1 h
          have h2 := (hL p.1 (hin p (List.mem_append_left _ hp))).2 (List.mem_map_of_mem (List.mem_append_left _ hp))
          rw [h1] at h2
          cases h2
        · exact h
      obtain ⟨σ', g1, g2⟩ := Chain.front pre σ hc hpre
      have hnot : j' ∉ (pre ++ post).map (·.1) := by
        intro hmem
        obtain ⟨p, hp, hpj⟩ := List.mem_map.1 hmem
        rcases List.mem_append.1 hp with hp | hp
        · have := (hpw.2.2 p hp (j', g) (List.mem_cons_self ..)).1
          simp at this; omega
        · have := ((List.pairwise_cons.1 hpw.2.1).1 p hp).1
          simp at this; omega
      have hsub : ∀ p, p ∈ pre ++ post → p ∈ pre ++ (j', g) :: post := fun p hp => by
        rcases List.mem_append.1 hp with hp | hp
        · exact List.mem_append_left _ hp
        · exact List.mem_append_right _ (List.mem_cons_of_mem _ hp)
      refine Go1.sound hcfg rel g1 fun x' a' w' he' hf' rel' => ?_
      refine ih (pre ++ post) (listed.setIfInBounds j' true) x' σ' a' w' (by simp at hm ⊢; omega) (by simp [hsz]) ⟨?_, fun p hp => hord.edges p (hsub p hp)⟩ ?_ ?_ (fun p hp => hin p (hsub p hp)) hedge (he.trans he') (hf.trans hf') rel' g2
      · rw [List.pairwise_append]
        exact ⟨hpw.1, (List.pairwise_cons.1 hpw.2.1).2, fun p hp q hq => hpw.2.2 p hp q (List.mem_cons_of_mem _ hq)⟩
      · intro i hi
        by_cases e : i = j'
        · subst e
          rw [getD_set_self (by omega)]
          exact ⟨fun h => (by cases h), fun h => absurd h hnot⟩
        · rw [getD_set_ne false (Ne.symm e), hL i hi]
          simp only [List.map_append, List.map_cons, List.mem_append, List.mem_cons, e, false_or]
      · intro i hi h p hp
        by_cases e : i = j'
        · subst e
          exact getD_set_true (hanc p hp)
        · rw [getD_set_ne false (Ne.symm e)] at h
          exact getD_set_true (hdown i hi h p hp)

theorem Ext.drawn (x : Xs) (w : World) (m : Nat) : Ext x w x { w with drawn := m } := ⟨fun _ _ h => h, fun _ _ h => h, fun _ _ h => h, fun _ _ _ => rfl⟩
theorem Fr.drawn (w : World) (m : Nat) : Fr M B w { w with drawn := m } := ⟨rfl, rfl, rfl, Nat.le_refl _, fun _ _ _ => rfl⟩
theorem Rel.drawn (rel : Rel M B O n x σ a w) (m : Nat) : Rel M B O n x σ a { w with drawn := m } := by
  have he := Ext.drawn x w m
  refine ⟨rel.size, fun i => (rel.tmps i).ext he, ⟨fun id b hb => ?_, rel.heap.apart, rel.heap.own, rel.heap.used, rel.heap.okp, rel.heap.old, rel.heap.big, rel.heap.okb, rel.heap.laid.ext he⟩, rel.defers⟩
  obtain ⟨q, hq, hr⟩ := rel.heap.box id b hb
  clear hb
  exact ⟨q, hq, hr.ext he fun _ _ => rfl⟩

theorem draw_any (hcfg : CfgOK P cfg) {k : St → R} (rel : Rel M B O n x σ a w) (H : drawK cfg n rid all all.toList 0 [] [] σ k = some r) {Q : Exit → Act → World → Prop}
    (hq : ∀ x' σ' a' w', Ext x w x' w' → Fr M B w w' → Rel M B O n x' σ' a' w' → k σ' = some r → Q .normal a' w') : wpAny P .any all Q all.size (Array.replicate all.size false) a { w with drawn := w.drawn + 1 } := by
  obtain ⟨L, τ, c1, c2, c3, _, c5⟩ := drawK_chain hcfg all.toList 0 [] σ rfl rfl H
  have hmem : ∀ i, i < all.size → i ∈ L.map (·.1) := fun i hi => by rw [c3, List.mem_range'_1]; simpa using hi
  have hedge : ∀ (i : Nat) (e : Edge) (o : Oper), all[i]? = some o → e ∈ o.after → Region.binds .any e = true → e.on < i := fun i e o ho he hb => by
    have hlt : i < all.size := (Array.getElem?_eq_some_iff.1 ho).1
    obtain ⟨p, hp, rfl⟩ := List.mem_map.1 (hmem i hlt)
    exact c5.edges p hp o ho e he hb
  have hlen : L.length = all.size := by
    have := congrArg List.length c3
    simpa using this
  refine chain_any hcfg x w (fun x' a' w' he hf rel' => hq x' τ a' w' he hf rel' c2) all.size L _ x σ a _ hlen (by simp) c5 (fun i hi => ?_) (fun i hi h => ?_) (fun p hp => ?_) hedge (Ext.drawn x w _) (Fr.drawn w _) (rel.drawn _) c1
  · simp only [Array.getD_eq_getD_getElem?, Array.getElem?_replicate, hi, if_true, Option.getD_some, true_iff]
    exact hmem i hi
  · simp [Array.getD_eq_getD_getElem?, hi] at h
  · have : p.1 ∈ L.map (·.1) := List.mem_map_of_mem hp
    rw [c3, List.mem_range'_1] at this
    simpa using this.2


theorem draw_sound (hcfg : CfgOK P cfg) {k : St → R} (rel : Rel M B O n x σ a w) (H : drawK cfg n rid all all.toList 0 [] [] σ k = some r) {Q : Exit → Act → World → Prop}
    (hq : ∀ x' σ' a' w', Ext x w x' w' → Fr M B w w' → Rel M B O n x' σ' a' w' → k σ' = some r → Q .normal a' w') (id : Nat) : (Code.region id all true).wp P Q a w :=
  wp_region_any hcfg.mixed (draw_any hcfg rel H hq)

end
end Go.Proofs.Ytdoilggfajngiaa.VE
