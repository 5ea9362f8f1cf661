/-
  What an operation may do to memory, and that boxes and memory fit together behind it: a new block, a write into a box, a box that is written no more, an append, a call.
-/
import Derived.Test.YtdoilggfajngiaaVC
namespace Go.Proofs.Ytdoilggfajngiaa.VE
open Go Go.RowKit

theorem BRel.ext {x x' : Xs} {w w' : World} {q : Gh} {b : Box} (e : Ext x w x' w') (hb : ∀ k, q.blk = some k → w'.heap[k]? = w.heap[k]?) (h : BRel x w q b) : BRel x' w' q b := by
  cases h with
  | cells ty cs b vs e' hq hw hs h => exact .cells ty cs b vs e' hq ((hb _ hq).trans hw) hs fun j c hc => (h j c hc).ext e
  | ice ty cs b vs e' hq hw hs h hfree hok => exact .ice ty cs b vs e' hq ((hb _ hq).trans hw) hs (fun j c hc => (h j c hc).ext e) hfree fun j hj => e.ok _ _ (hok j hj)
  | map κ τ es c b hq hw => exact .map κ τ es c b hq ((hb _ hq).trans hw)
  | row0 ty t hq hc => exact .row0 ty t hq hc
  | row ty t xs b vs e' hq hw hc hs h => exact .row ty t xs b vs e' hq ((hb _ hq).trans hw) hc hs (fun i el hi j c hc => (h i el hi j c hc).ext e)
  | none ty t fr hq hc hl => exact .none ty t fr hq hc hl
  | arr ty t xs fr b vs e' hq hw hl hc hs h hfr => exact .arr ty t xs fr b vs e' hq ((hb _ hq).trans hw) hl hc hs (fun i el hi j c hc => (h i el hi j c hc).ext e) fun hf i hi j hj => e.ok _ _ (hfr hf i hi j hj)

theorem BRel.blk {x : Xs} {w : World} {q : Gh} {b : Box} (h : BRel x w q b) {k : Nat} (hk : q.blk = some k) : ∃ o, w.heap[k]? = some o := by
  cases h with
  | cells ty cs b vs e' hq hw hs h => rw [hq] at hk; injection hk with hk; subst hk; exact ⟨_, hw⟩
  | ice ty cs b vs e' hq hw hs h => rw [hq] at hk; injection hk with hk; subst hk; exact ⟨_, hw⟩
  | map κ τ es c b hq hw => rw [hq] at hk; injection hk with hk; subst hk; exact ⟨_, hw⟩
  | row0 ty t hq hc => rw [hq] at hk; cases hk
  | row ty t xs b vs e' hq hw hc hs h => rw [hq] at hk; injection hk with hk; subst hk; exact ⟨_, hw⟩
  | none ty t fr hq hc hl => rw [hq] at hk; cases hk
  | arr ty t xs fr b vs e' hq hw hl hc hs h hfr => rw [hq] at hk; injection hk with hk; subst hk; exact ⟨_, hw⟩

theorem lt_of_some {w : World} {k : Nat} {o : Obj} (h : w.heap[k]? = some o) : k < w.heap.size := by
  rcases Nat.lt_or_ge k w.heap.size with h' | h'
  · exact h'
  · rw [Array.getElem?_eq_none h'] at h; cases h

theorem cell_of {w : World} {k : Nat} {vs : Array Value} {e : TypeId} {f : Nat × Nat} (h : w.heap[k]? = some (.cells vs e f)) (o : Nat) : w.cell? ⟨k, o, none⟩ = vs[o]? := by
  simp [World.cell?, h]

theorem cell_congr {w w' : World} {k : Nat} (h : w'.heap[k]? = w.heap[k]?) (o : Nat) : w'.cell? ⟨k, o, none⟩ = w.cell? ⟨k, o, none⟩ := by
  simp [World.cell?, h]

theorem run_getObj_of {P : Program} {w : World} {r : Nat} {es : Array MapEntry} {c : Nat} (h : w.heap[r]? = some (.map es c)) : (getObj r).run P w = .ok (.map es c) w := by simp [getObj, Sem.run, h]

/-! ### a new block -/

theorem heap_alloc_new (w : World) (o : Obj) : (w.alloc o).heap[w.heap.size]? = some o := by
  show (w.heap.push o)[w.heap.size]? = _
  simp

def Xs.new (x : Xs) (key : Nat) (q : Gh) : Xs := { x with g := upd x.g key (some q) }

theorem HRel.fresh {M : Nat → Prop} {B : Nat} {O : Nat → Nat → Prop} {x : Xs} {h : Nat → Option Box} {u : Nat → Bool} {w : World} (r : HRel M B O x h u w) {key : Nat} (hk : u key = false) : x.g key = none := by
  cases hg : x.g key with
  | none => rfl
  | some q => rw [r.used _ _ hg] at hk; cases hk

theorem Ext.alloc {M : Nat → Prop} {B : Nat} {O : Nat → Nat → Prop} {x : Xs} {h : Nat → Option Box} {u : Nat → Bool} {w : World} (r : HRel M B O x h u w) {key : Nat} (hk : u key = false) (q : Gh) (o : Obj) : Ext x w (x.new key q) (w.alloc o) := by
  refine ⟨fun id q' hq => ?_, fun _ _ h => h, fun _ _ h => h, fun b o' hb => ?_⟩
  · have hne : id ≠ key := by rintro rfl; rw [r.fresh hk] at hq; cases hq
    show upd x.g key (some q) id = _
    rw [upd_other _ _ hne]; exact hq
  · have hlt : b < w.heap.size := hb.elim (r.old b o') (fun h => r.old b o' (r.okp _ _ h))
    exact World.cell?_alloc_lt _ _ _ hlt

theorem Fr.alloc {M : Nat → Prop} {B : Nat} (w : World) (hB : B ≤ w.heap.size) (o : Obj) : Fr M B w (w.alloc o) :=
  ⟨rfl, rfl, rfl, by simp, fun k hk _ => Below.heap_alloc _ _ _ (by omega)⟩

theorem HRel.allocO {M : Nat → Prop} {B : Nat} {O : Nat → Nat → Prop} {x : Xs} {h : Nat → Option Box} {u : Nat → Bool} {w : World} (r : HRel M B O x h u w) {key : Nat} (hk : u key = false)
    (o : Obj) (cap len : Nat) (bx : Box) (hbx : BRel (x.new key ⟨some w.heap.size, cap, len⟩) (w.alloc o) ⟨some w.heap.size, cap, len⟩ bx) :
    HRel M B O (x.new key ⟨some w.heap.size, cap, len⟩) (upd h key (some bx)) (upd u key true) (w.alloc o) := by
  have he := Ext.alloc r hk ⟨some w.heap.size, cap, len⟩ o
  have hold : ∀ id b q k, h id = some b → x.g id = some q → q.blk = some k → k < w.heap.size := by
    intro id b q k hb hq hk
    obtain ⟨q', hq', hbr⟩ := r.box id b hb
    rw [hq] at hq'; injection hq' with hq'; subst hq'
    obtain ⟨_, hw⟩ := hbr.blk hk
    exact lt_of_some hw
  have hgk : (x.new key ⟨some w.heap.size, cap, len⟩).g key = some ⟨some w.heap.size, cap, len⟩ := upd_same _ _ _
  have hgo : ∀ id, id ≠ key → (x.new key ⟨some w.heap.size, cap, len⟩).g id = x.g id := fun id hne => upd_other _ _ hne
  refine ⟨?_, ?_, ?_, ?_, r.okp, ?_, ?_, r.okb, r.laid.ext he⟩
  · intro id b hb
    by_cases hid : id = key
    · subst hid
      rw [upd_same] at hb; injection hb with hb; subst hb
      exact ⟨_, hgk, hbx⟩
    · rw [upd_other _ _ hid] at hb
      obtain ⟨q', hq', hbr⟩ := r.box id b hb
      exact ⟨q', by rw [hgo _ hid]; exact hq', hbr.ext he fun k hk' => Below.heap_alloc _ _ _ (hold id b q' k hb hq' hk')⟩
  · intro i j bi bj qi qj k hi hj hqi hqj hki hkj
    by_cases h1 : i = key
    · by_cases h2 : j = key
      · rw [h1, h2]
      · exfalso
        subst h1
        rw [hgk] at hqi; injection hqi with hqi; subst hqi
        injection hki with hki; subst hki
        rw [upd_other _ _ h2] at hj; rw [hgo _ h2] at hqj
        exact Nat.lt_irrefl _ (hold _ _ _ _ hj hqj hkj)
    · by_cases h2 : j = key
      · exfalso
        subst h2
        rw [hgk] at hqj; injection hqj with hqj; subst hqj
        injection hkj with hkj; subst hkj
        rw [upd_other _ _ h1] at hi; rw [hgo _ h1] at hqi
        exact Nat.lt_irrefl _ (hold _ _ _ _ hi hqi hki)
      · rw [upd_other _ _ h1] at hi; rw [upd_other _ _ h2] at hj; rw [hgo _ h1] at hqi; rw [hgo _ h2] at hqj
        exact r.apart i j bi bj qi qj k hi hj hqi hqj hki hkj
  · intro i bi qi k hi hh hqi hki
    by_cases h1 : i = key
    · subst h1
      rw [hgk] at hqi; injection hqi with hqi; subst hqi
      injection hki with hki; subst hki
      exact ⟨.inl r.big, fun o ho => Nat.lt_irrefl _ (r.old _ _ ho)⟩
    · rw [upd_other _ _ h1] at hi; rw [hgo _ h1] at hqi
      exact r.own i bi qi k hi hh hqi hki
  · intro id q hq
    by_cases h1 : id = key
    · subst h1; exact upd_same _ _ _
    · rw [upd_other _ _ h1]; rw [hgo _ h1] at hq; exact r.used id q hq
  · intro b o hb
    have := r.old b o hb
    simp; omega
  · have := r.big
    simp; omega

theorem HRel.alloc {M : Nat → Prop} {B : Nat} {O : Nat → Nat → Prop} {x : Xs} {h : Nat → Option Box} {u : Nat → Bool} {w : World} (r : HRel M B O x h u w) {key : Nat} (hk : u key = false)
    (vs : Array Value) (e : TypeId) (cap len : Nat) (bx : Box) (hbx : BRel (x.new key ⟨some w.heap.size, cap, len⟩) (w.alloc (.cells vs e)) ⟨some w.heap.size, cap, len⟩ bx) :
    HRel M B O (x.new key ⟨some w.heap.size, cap, len⟩) (upd h key (some bx)) (upd u key true) (w.alloc (.cells vs e)) := r.allocO hk _ cap len bx hbx

/-! ### a write into a box -/

def wr : Array Value → Nat → List Value → Array Value
  | vs, _, [] => vs
  | vs, o, v :: r => wr (vs.setIfInBounds o v) (o + 1) r

theorem wr_size : ∀ (l : List Value) (vs : Array Value) (o : Nat), (wr vs o l).size = vs.size
  | [], _, _ => rfl
  | v :: r, vs, o => by rw [wr, wr_size r]; simp

theorem wr_get : ∀ (l : List Value) (vs : Array Value) (o j : Nat), o + l.length ≤ vs.size →
    (wr vs o l)[j]? = if j < o then vs[j]? else if j < o + l.length then l[j - o]? else vs[j]?
  | [], vs, o, j, _ => by
    simp only [wr, List.length_nil, Nat.add_zero]
    split <;> first | rfl | (split <;> first | rfl | omega)
  | v :: r, vs, o, j, h => by
    simp only [List.length_cons] at h
    rw [wr, wr_get r _ _ _ (by simp; omega)]
    simp only [List.length_cons]
    by_cases h1 : j < o
    · rw [if_pos (by omega), if_pos h1, Array.getElem?_setIfInBounds_ne (by omega)]
    · rw [if_neg h1]
      by_cases h2 : j = o
      · subst h2
        have h3 : j < vs.size := by omega
        have h4 : j < j + 1 := by omega
        have h5 : j < j + (r.length + 1) := by omega
        rw [if_pos h4, if_pos h5]
        simp [h3]
      · rw [if_neg (by omega)]
        by_cases h3 : j < o + 1 + r.length
        · rw [if_pos h3, if_pos (by omega)]
          obtain ⟨d, hd⟩ : ∃ d, j - o = d + 1 := ⟨j - o - 1, by omega⟩
          rw [hd, List.getElem?_cons_succ]
          congr 1; omega
        · rw [if_neg h3, if_neg (by omega), Array.getElem?_setIfInBounds_ne (by omega)]

def World.putBlk (w : World) (k : Nat) (o : Obj) : World := { w with heap := w.heap.setIfInBounds k o }

theorem putBlk_same {w : World} {k : Nat} (h : k < w.heap.size) (o : Obj) : (World.putBlk w k o).heap[k]? = some o := by simp [World.putBlk, h]
theorem putBlk_other {w : World} {k j : Nat} (h : j ≠ k) (o : Obj) : (World.putBlk w k o).heap[j]? = w.heap[j]? := by
  simp only [World.putBlk]; exact Array.getElem?_setIfInBounds_ne (Ne.symm h)
theorem putBlk_size {w : World} {k : Nat} (o : Obj) : (World.putBlk w k o).heap.size = w.heap.size := by simp [World.putBlk]

theorem setCell_putBlk {w : World} {k : Nat} {vs : Array Value} {e : TypeId} (h : w.heap[k]? = some (.cells vs e (0, 0))) (o : Nat) (v : Value) :
    w.setCell ⟨k, o, none⟩ v = World.putBlk w k (.cells (vs.setIfInBounds o v) e (0, 0)) := by
  unfold World.setCell World.putBlk
  congr 1
  apply Array.ext_getElem?
  intro j
  rw [Array.getElem?_modify]
  by_cases hj : j = k
  · subst hj; rw [if_pos rfl, h, Array.getElem?_setIfInBounds_self_of_lt (lt_of_some h)]; rfl
  · rw [if_neg (Ne.symm hj), Array.getElem?_setIfInBounds_ne (Ne.symm hj)]

theorem putBlk_putBlk (w : World) (k : Nat) (a b : Obj) : World.putBlk (World.putBlk w k a) k b = World.putBlk w k b := by
  simp [World.putBlk]

theorem putBlk_self {w : World} {k : Nat} {o : Obj} (h : w.heap[k]? = some o) : World.putBlk w k o = w := by
  unfold World.putBlk
  have : w.heap.setIfInBounds k o = w.heap := by
    apply Array.ext_getElem?
    intro j
    by_cases hj : j = k
    · subst hj; rw [h, Array.getElem?_setIfInBounds_self_of_lt (lt_of_some h)]
    · rw [Array.getElem?_setIfInBounds_ne (Ne.symm hj)]
  rw [this]

theorem run_setObj_of {P : Program} {w : World} {r : Nat} {es : Array MapEntry} {c : Nat} (o' : Obj) (h : w.heap[r]? = some (.map es c)) : (setObj r o').run P w = .ok () (World.putBlk w r o') := by simp [setObj, Sem.run, h, World.putBlk]

theorem add_none (k off i : Nat) : (⟨k, off, none⟩ : Addr).add i = ⟨k, off + i, none⟩ := by
  unfold Addr.add
  split
  · subst_vars; rfl
  · rfl

theorem run_storeCells {P : Program} {k off : Nat} {e : TypeId} : ∀ (l : List Value) (i : Nat) (w : World) (vs : Array Value), (∀ v, v ∈ l → v.oneCell' = true) →
    w.heap[k]? = some (.cells vs e (0, 0)) → off + i + l.length ≤ vs.size →
    (storeCells ⟨k, off, none⟩ l i).run P w = .ok () (World.putBlk w k (.cells (wr vs (off + i) l) e (0, 0)))
  | [], i, w, vs, _, hw, _ => by
    rw [storeCells, wr, putBlk_self hw]; rfl
  | v :: r, i, w, vs, h1, hw, hl => by
    simp only [List.length_cons] at hl
    have hlt := lt_of_some hw
    rw [storeCells, Sem.run_bind, run_store P _ _ _ _ (h1 v (by simp)), add_none, cell_of hw]
    have hs : vs[off + i]? = some vs[off + i] := Array.getElem?_eq_getElem (by omega)
    rw [hs]
    have hfz : w.frozen? ⟨k, off + i, none⟩ = false := by simp [World.frozen?, hw]
    simp only [hfz, Bool.false_eq_true, if_false, Result.andThen_ok]
    rw [setCell_putBlk hw, run_storeCells r (i + 1) _ (vs.setIfInBounds (off + i) v) (fun u hu => h1 u (by simp [hu])) (putBlk_same hlt _) (by simp; omega), putBlk_putBlk]
    rfl

theorem Fr.putBlk {M : Nat → Prop} {B : Nat} {w : World} {k : Nat} (h : B ≤ k ∨ M k) (o : Obj) : Fr M B w (World.putBlk w k o) :=
  ⟨rfl, rfl, rfl, by rw [putBlk_size]; exact Nat.le_refl _, fun j hj hm => putBlk_other (by rintro rfl; rcases h with h | h; omega; exact hm h) o⟩

theorem Ext.putBlk {x : Xs} {w : World} {k : Nat} (h : ∀ o, ¬ x.okp k o) (hok : ∀ b o, x.ok b o → x.okp b o) (o : Obj) : Ext x w x (World.putBlk w k o) :=
  ⟨fun _ _ h => h, fun _ _ h => h, fun _ _ h => h, fun b o' hb => cell_congr (putBlk_other (by rintro rfl; exact h o' (hb.elim id (hok _ _))) o) o'⟩

/-- The box of a name is turned, and its block with it. -/
theorem HRel.putO {M : Nat → Prop} {B : Nat} {O : Nat → Nat → Prop} {x : Xs} {h : Nat → Option Box} {u : Nat → Bool} {w : World} (r : HRel M B O x h u w) {id : Nat} {b : Box} {q : Gh} {k : Nat}
    (hb : h id = some b) (hh : b.hot = true) (hq : x.g id = some q) (hk : q.blk = some k) (o : Obj) (bx : Box)
    (hbx : BRel x (World.putBlk w k o) q bx) : HRel M B O x (upd h id (some bx)) u (World.putBlk w k o) := by
  have hown := r.own id b q k hb hh hq hk
  have he := Ext.putBlk (w := w) hown.2 r.okp o
  refine ⟨?_, ?_, ?_, r.used, r.okp, ?_, ?_, r.okb, r.laid.ext he⟩
  · intro i bi hi
    by_cases h1 : i = id
    · subst h1; rw [upd_same] at hi; injection hi with hi; subst hi; exact ⟨q, hq, hbx⟩
    · rw [upd_other _ _ h1] at hi
      obtain ⟨qi, hqi, hbi⟩ := r.box i bi hi
      refine ⟨qi, hqi, hbi.ext he fun k' hk' => putBlk_other ?_ _⟩
      rintro rfl
      exact h1 (r.apart i id bi b qi q _ hi hb hqi hq hk' hk)
  · intro i j bi bj qi qj k' hi hj hqi hqj hki hkj
    have hi' : ∃ bi', h i = some bi' := by
      by_cases h1 : i = id
      · exact ⟨b, h1 ▸ hb⟩
      · rw [upd_other _ _ h1] at hi; exact ⟨_, hi⟩
    have hj' : ∃ bj', h j = some bj' := by
      by_cases h1 : j = id
      · exact ⟨b, h1 ▸ hb⟩
      · rw [upd_other _ _ h1] at hj; exact ⟨_, hj⟩
    obtain ⟨bi', hi'⟩ := hi'
    obtain ⟨bj', hj'⟩ := hj'
    exact r.apart i j bi' bj' qi qj k' hi' hj' hqi hqj hki hkj
  · intro i bi qi k' hi hhi hqi hki
    by_cases h1 : i = id
    · subst h1
      rw [hq] at hqi; injection hqi with hqi; subst hqi
      exact r.own i b q k' hb hh hq hki
    · rw [upd_other _ _ h1] at hi; exact r.own i bi qi k' hi hhi hqi hki
  · intro b' o hb'; rw [putBlk_size]; exact r.old b' o hb'
  · rw [putBlk_size]; exact r.big

theorem HRel.putBlk {M : Nat → Prop} {B : Nat} {O : Nat → Nat → Prop} {x : Xs} {h : Nat → Option Box} {u : Nat → Bool} {w : World} (r : HRel M B O x h u w) {id : Nat} {b : Box} {q : Gh} {k : Nat}
    (hb : h id = some b) (hh : b.hot = true) (hq : x.g id = some q) (hk : q.blk = some k) (vs : Array Value) (e : TypeId) (bx : Box)
    (hbx : BRel x (World.putBlk w k (.cells vs e (0, 0))) q bx) : HRel M B O x (upd h id (some bx)) u (World.putBlk w k (.cells vs e (0, 0))) := r.putO hb hh hq hk _ bx hbx

/-! ### a box is taken away -/

theorem HRel.drop {M : Nat → Prop} {B : Nat} {O : Nat → Nat → Prop} {x : Xs} {h : Nat → Option Box} {u : Nat → Bool} {w : World} (r : HRel M B O x h u w) (id : Nat) : HRel M B O x (upd h id none) u w := by
  have hs : ∀ {i b}, upd h id none i = some b → h i = some b := by
    intro i b hi
    by_cases h1 : i = id
    · subst h1; rw [upd_same] at hi; cases hi
    · rwa [upd_other _ _ h1] at hi
  exact ⟨fun i b hi => r.box i b (hs hi), fun i j bi bj qi qj k hi hj => r.apart i j bi bj qi qj k (hs hi) (hs hj), fun i bi qi k hi => r.own i bi qi k (hs hi), r.used, r.okp, r.old, r.big, r.okb, r.laid⟩

/-! ### a box is written no more -/

def Fz (h : Nat → Option Box) (p : Nat × Option Box) : Prop := ∃ ty t xs fr, h p.1 = some (.arr ty t xs fr) ∧ p.2 = some (.arr ty t xs true)

def Xs.more (x : Xs) (S : Nat → Nat → Prop) : Xs := { x with ok := fun b o => x.ok b o ∨ S b o, okp := fun b o => x.okp b o ∨ S b o }

theorem HRel.freeze1 {M : Nat → Prop} {B : Nat} {O : Nat → Nat → Prop} {x : Xs} {h : Nat → Option Box} {u : Nat → Bool} {w : World} (r : HRel M B O x h u w) {id ty : Nat} {t : Ty} {xs : List (El t)} {fr : Bool}
    (hb : h id = some (.arr ty t xs fr)) : ∃ x', Ext x w x' w ∧ HRel M B O x' (upd h id (some (.arr ty t xs true))) u w ∧
      (∀ v, VRel x w v (.sref id) → VRel x' w v (.sl t xs)) ∧ x'.g = x.g := by
  obtain ⟨q, hq, hbr⟩ := r.box id _ hb
  cases hfr : fr with
  | true =>
    subst hfr
    have hu : upd h id (some (.arr ty t xs true)) = h := by
      funext i
      by_cases h1 : i = id
      · subst h1; rw [upd_same, hb]
      · rw [upd_other _ _ h1]
    refine ⟨x, Ext.refl _ _, by rw [hu]; exact r, ?_, rfl⟩
    intro v hv
    cases hv with
    | sref _ q' hq' =>
      rw [hq] at hq'; injection hq' with hq'; subst hq'
      cases hbr with
      | none _ _ _ h1 h2 h3 =>
        rw [h1, h2, h3]
        exact .sl t [] none 0 (fun _ _ => undef) (Nat.le_refl _) (fun _ => rfl) (fun i hi => absurd hi (by simp)) (fun i e hi => by simp at hi)
      | arr _ _ _ _ k vs e h1 h2 h3 h4 h5 h6 h7 =>
        rw [h1, h3]
        refine .sl t xs _ q.cap (fun i j => vs.getD (i * width t + j) undef) h4 (fun hn => by simp at hn) (fun i hi j hj => ⟨⟨k, 0, none⟩, rfl, rfl, ?_, ?_⟩) (fun i e hi j c hc => h6 i e hi j c hc)
        · rw [Nat.zero_add]; exact h7 rfl i hi j hj
        · rw [Nat.zero_add, cell_of h2]
          have hlt : i * width t + j < vs.size := by
            rw [h5]
            have : (i + 1) * width t ≤ q.cap * width t := Nat.mul_le_mul_right _ (by omega)
            rw [Nat.add_mul] at this; omega
          simp [Array.getD, hlt]
  | false =>
    subst hfr
    cases hbr with
    | none _ _ _ h1 h2 h3 =>
      refine ⟨x, Ext.refl _ _, ⟨?_, ?_, ?_, r.used, r.okp, r.old, r.big, r.okb, r.laid⟩, ?_, rfl⟩
      · intro i b hi
        by_cases he : i = id
        · subst he; rw [upd_same] at hi; injection hi with hi; subst hi; exact ⟨q, hq, .none _ _ _ h1 h2 h3⟩
        · rw [upd_other _ _ he] at hi; exact r.box i b hi
      · intro i j bi bj qi qj k hi hj hqi hqj hki hkj
        by_cases he : i = id
        · subst he; rw [hq] at hqi; injection hqi with hqi; subst hqi; rw [h1] at hki; cases hki
        · by_cases he2 : j = id
          · subst he2; rw [hq] at hqj; injection hqj with hqj; subst hqj; rw [h1] at hkj; cases hkj
          · rw [upd_other _ _ he] at hi; rw [upd_other _ _ he2] at hj
            exact r.apart i j bi bj qi qj k hi hj hqi hqj hki hkj
      · intro i bi qi k hi hh hqi hki
        by_cases he : i = id
        · subst he; rw [hq] at hqi; injection hqi with hqi; subst hqi; rw [h1] at hki; cases hki
        · rw [upd_other _ _ he] at hi; exact r.own i bi qi k hi hh hqi hki
      · intro v hv
        cases hv with
        | sref _ q' hq' =>
          rw [hq] at hq'; injection hq' with hq'; subst hq'
          rw [h1, h2, h3]
          exact .sl t [] none 0 (fun _ _ => undef) (Nat.le_refl _) (fun _ => rfl) (fun i hi => absurd hi (by simp)) (fun i e hi => by simp at hi)
    | arr _ _ _ _ k vs e h1 h2 h3 h4 h5 h6 h7 =>
      have hown := r.own id _ q k hb rfl hq h1
      have hlt := lt_of_some h2
      let S : Nat → Nat → Prop := fun b o => b = k ∧ o < xs.length * width t
      have hS : ∀ i, i < xs.length → ∀ j, j < width t → i * width t + j < xs.length * width t := by
        intro i hi j hj
        have : (i + 1) * width t ≤ xs.length * width t := Nat.mul_le_mul_right _ (by omega)
        rw [Nat.add_mul] at this; omega
      have he : Ext x w (x.more S) w := ⟨fun _ _ h => h, fun _ _ h => .inl h, fun _ _ h => .inl h, fun _ _ _ => rfl⟩
      refine ⟨x.more S, he, ⟨?_, ?_, ?_, r.used, ?_, ?_, r.big, ?_, r.laid.ext he⟩, ?_, rfl⟩
      · intro i b hi
        by_cases h1' : i = id
        · subst h1'
          rw [upd_same] at hi; injection hi with hi; subst hi
          exact ⟨q, hq, .arr _ _ _ _ k vs e h1 h2 h3 h4 h5 (fun i el hi j c hc => (h6 i el hi j c hc).ext he) fun _ i hi j hj => .inr ⟨rfl, hS i hi j hj⟩⟩
        · rw [upd_other _ _ h1'] at hi
          obtain ⟨qi, hqi, hbi⟩ := r.box i b hi
          exact ⟨qi, hqi, hbi.ext he fun _ _ => rfl⟩
      · intro i j bi bj qi qj k' hi hj hqi hqj hki hkj
        have hi' : ∃ bi', h i = some bi' := by
          by_cases h1 : i = id
          · exact ⟨_, h1 ▸ hb⟩
          · rw [upd_other _ _ h1] at hi; exact ⟨_, hi⟩
        have hj' : ∃ bj', h j = some bj' := by
          by_cases h1 : j = id
          · exact ⟨_, h1 ▸ hb⟩
          · rw [upd_other _ _ h1] at hj; exact ⟨_, hj⟩
        obtain ⟨bi', hi'⟩ := hi'
        obtain ⟨bj', hj'⟩ := hj'
        exact r.apart i j bi' bj' qi qj k' hi' hj' hqi hqj hki hkj
      · intro i bi qi k' hi hh hqi hki
        by_cases he' : i = id
        · subst he'; rw [upd_same] at hi; injection hi with hi; subst hi; simp [Box.hot] at hh
        · rw [upd_other _ _ he'] at hi
          have ho := r.own i bi qi k' hi hh hqi hki
          refine ⟨ho.1, fun o hoo => ?_⟩
          rcases hoo with hoo | ⟨hoo, _⟩
          · exact ho.2 o hoo
          · subst hoo; exact he' (r.apart i id bi _ qi q _ hi hb hqi hq hki h1)
      · intro b o hbo; exact hbo.imp (r.okp b o) (fun h => h)
      · intro b o hbo
        rcases hbo with hbo | ⟨rfl, _⟩
        · exact r.old b o hbo
        · exact hlt
      · intro b o hbo
        rcases hbo with hbo | ⟨rfl, _⟩
        · exact r.okb b o hbo
        · exact .inr hown.1
      · intro v hv
        cases hv with
        | sref _ q' hq' =>
          rw [hq] at hq'; injection hq' with hq'; subst hq'
          rw [h1, h3]
          refine .sl t xs _ q.cap (fun i j => vs.getD (i * width t + j) undef) h4 (fun hn => by simp at hn) (fun i hi j hj => ⟨⟨k, 0, none⟩, rfl, rfl, ?_, ?_⟩) (fun i e hi j c hc => (h6 i e hi j c hc).ext he)
          · rw [Nat.zero_add]; exact .inr ⟨rfl, hS i hi j hj⟩
          · rw [Nat.zero_add, cell_of h2]
            have hlt : i * width t + j < vs.size := by
              have := hS i hi j hj
              have h8 : xs.length * width t ≤ q.cap * width t := Nat.mul_le_mul_right _ h4
              rw [h5]; omega
            simp [Array.getD, hlt]

/-- Cells of plain data are turned no more. -/
theorem HRel.ice1 {M : Nat → Prop} {B : Nat} {O : Nat → Nat → Prop} {x : Xs} {h : Nat → Option Box} {u : Nat → Bool} {w : World} (r : HRel M B O x h u w) {id ty : Nat} {cs : List IC}
    (hb : h id = some (.cells ty cs)) (hall : ∀ c, c ∈ cs → Free c) : ∃ x', Ext x w x' w ∧ HRel M B O x' (upd h id (some (.ice ty cs))) u w ∧
      (∀ v off, VRel x w v (.ref id off) → VRel x' w v (.psnap cs off)) ∧ x'.g = x.g := by
  obtain ⟨q, hq, hbr⟩ := r.box id _ hb
  cases hbr with
  | cells _ _ k vs e h1 h2 h3 h4 =>
    have hown := r.own id _ q k hb rfl hq h1
    have hlt := lt_of_some h2
    let S : Nat → Nat → Prop := fun b o => b = k ∧ o < cs.length
    have he : Ext x w (x.more S) w := ⟨fun _ _ h => h, fun _ _ h => .inl h, fun _ _ h => .inl h, fun _ _ _ => rfl⟩
    refine ⟨x.more S, he, ⟨?_, ?_, ?_, r.used, ?_, ?_, r.big, ?_, r.laid.ext he⟩, ?_, rfl⟩
    · intro i b hi
      by_cases h1' : i = id
      · subst h1'
        rw [upd_same] at hi; injection hi with hi; subst hi
        exact ⟨q, hq, .ice _ _ k vs e h1 h2 h3 (fun j c hc => (h4 j c hc).ext he) hall fun j hj => .inr ⟨rfl, hj⟩⟩
      · rw [upd_other _ _ h1'] at hi
        obtain ⟨qi, hqi, hbi⟩ := r.box i b hi
        exact ⟨qi, hqi, hbi.ext he fun _ _ => rfl⟩
    · intro i j bi bj qi qj k' hi hj hqi hqj hki hkj
      have hi' : ∃ bi', h i = some bi' := by
        by_cases h1 : i = id
        · exact ⟨_, h1 ▸ hb⟩
        · rw [upd_other _ _ h1] at hi; exact ⟨_, hi⟩
      have hj' : ∃ bj', h j = some bj' := by
        by_cases h1 : j = id
        · exact ⟨_, h1 ▸ hb⟩
        · rw [upd_other _ _ h1] at hj; exact ⟨_, hj⟩
      obtain ⟨bi', hi'⟩ := hi'
      obtain ⟨bj', hj'⟩ := hj'
      exact r.apart i j bi' bj' qi qj k' hi' hj' hqi hqj hki hkj
    · intro i bi qi k' hi hh hqi hki
      by_cases he' : i = id
      · subst he'; rw [upd_same] at hi; injection hi with hi; subst hi; simp [Box.hot] at hh
      · rw [upd_other _ _ he'] at hi
        have ho := r.own i bi qi k' hi hh hqi hki
        refine ⟨ho.1, fun o hoo => ?_⟩
        rcases hoo with hoo | ⟨hoo, _⟩
        · exact ho.2 o hoo
        · subst hoo; exact he' (r.apart i id bi _ qi q _ hi hb hqi hq hki h1)
    · intro b o hbo; exact hbo.imp (r.okp b o) (fun h => h)
    · intro b o hbo
      rcases hbo with hbo | ⟨rfl, _⟩
      · exact r.old b o hbo
      · exact hlt
    · intro b o hbo
      rcases hbo with hbo | ⟨rfl, _⟩
      · exact r.okb b o hbo
      · exact .inr hown.1
    · intro v off hv
      cases hv with
      | ref _ _ q' b hq' hb' =>
        rw [hq] at hq'; injection hq' with hq'; subst hq'
        rw [h1] at hb'; injection hb' with hb'; subst hb'
        have := VRel.psnap (x := x.more S) (w := w) cs off k 0 (fun j => vs.getD j undef) hall (fun j hj => ⟨.inr ⟨by simp, by omega⟩, by
          rw [Nat.zero_add, cell_of h2]
          have : j < vs.size := by omega
          simp [Array.getD, this]⟩) (fun j c hc => (h4 j c hc).ext he)
        rwa [Nat.zero_add] at this

theorem Fz.upd {h : Nat → Option Box} {id ty : Nat} {t : Ty} {xs : List (El t)} {fr : Bool} (hb : h id = some (.arr ty t xs fr)) {p : Nat × Option Box} (hp : Fz h p) :
    Fz (VE.upd h id (some (.arr ty t xs true))) p := by
  obtain ⟨ty', t', xs', fr', h1, h2⟩ := hp
  by_cases he : p.1 = id
  · refine ⟨ty', t', xs', true, ?_, h2⟩
    rw [he, upd_same]
    rw [he, hb] at h1
    injection h1 with h1
    cases h1; rfl
  · exact ⟨ty', t', xs', fr', by rw [upd_other _ _ he]; exact h1, h2⟩

/-- All that settling names is frozen; each is told as a list from there on. -/
theorem HRel.freezeAll {M : Nat → Prop} {B : Nat} {O : Nat → Nat → Prop} {u : Nat → Bool} {w : World} : ∀ (fz : List (Nat × Option Box)) (x : Xs) (h : Nat → Option Box), HRel M B O x h u w → (∀ p, p ∈ fz → Fz h p) →
    ∃ x', Ext x w x' w ∧ HRel M B O x' (updMany h fz) u w ∧ (∀ p, p ∈ fz → ∀ ty t xs fr, h p.1 = some (.arr ty t xs fr) → ∀ v, VRel x w v (.sref p.1) → VRel x' w v (.sl t xs)) ∧ x'.g = x.g
  | [], x, h, r, _ => ⟨x, Ext.refl _ _, r, fun p hp => by simp at hp, rfl⟩
  | p :: fz, x, h, r, hf => by
    obtain ⟨ty, t, xs, fr, h1, h2⟩ := hf p (by simp)
    obtain ⟨x1, e1, r1, s1, g1⟩ := r.freeze1 h1
    obtain ⟨x2, e2, r2, s2, g2⟩ := HRel.freezeAll fz x1 _ r1 (fun p' hp' => (hf p' (by simp [hp'])).upd h1)
    refine ⟨x2, e1.trans e2, ?_, ?_, g2.trans g1⟩
    · obtain ⟨i, b⟩ := p
      simp only at h2
      subst h2
      exact r2
    · intro p' hp' ty' t' xs' fr' hb' v hv
      rcases List.mem_cons.1 hp' with rfl | hp'
      · rw [h1] at hb'; injection hb' with hb'; cases hb'
        exact (s1 v hv).ext e2
      · by_cases he : p'.1 = p.1
        · rw [he] at hv hb'
          rw [h1] at hb'; injection hb' with hb'; cases hb'
          exact (s1 v hv).ext e2
        · exact s2 p' hp' ty' t' xs' fr' (by rw [upd_other _ _ he]; exact hb') v (hv.ext e1)

end Go.Proofs.Ytdoilggfajngiaa.VE
