/-
  Each operation of the ideal machine is the model's, continued: append, conversions.
-/
import Derived.Test.YtdoilggfajngiaaVK
namespace Go.Proofs.Ytdoilggfajngiaa.VE
open Go Go.RowKit

section
variable {P : Program} {cfg : Cfg} {M : Nat → Prop} {B key : Nat} {O : Nat → Nat → Prop} {x : Xs} {h hr : Nat → Option Box} {u : Nat → Bool} {w : World} {k : Out → R} {r : IV × List (Nat × Box)}

theorem Ext.drew (x : Xs) (w : World) : Ext x w x w.drew := ⟨fun _ _ h => h, fun _ _ h => h, fun _ _ h => h, fun _ _ _ => rfl⟩
theorem Fr.drew (M : Nat → Prop) (B : Nat) (w : World) : Fr M B w w.drew := ⟨rfl, rfl, rfl, Nat.le_refl _, fun _ _ _ => rfl⟩
theorem HRel.drew (rel : HRel M B O x h u w) : HRel M B O x h u w.drew :=
  ⟨fun i b hb => by obtain ⟨q, h1, h2⟩ := rel.box i b hb; exact ⟨q, h1, h2.ext (Ext.drew x w) fun _ _ => rfl⟩, rel.apart, rel.own, rel.used, rel.okp, rel.old, rel.big, rel.okb, rel.laid.ext (Ext.drew x w)⟩

/-- A new name without a block. -/
theorem HRel.empty (rel : HRel M B O x h u w) (hk : u key = false) (ty : Nat) (t : Ty) :
    Ext x w (x.new key ⟨none, 0, 0⟩) w ∧ HRel M B O (x.new key ⟨none, 0, 0⟩) (upd h key (some (.arr ty t [] false))) (upd u key true) w := by
  have hfr := rel.fresh hk
  have hgk : (x.new key ⟨none, 0, 0⟩).g key = some ⟨none, 0, 0⟩ := upd_same _ _ _
  have hgo : ∀ id, id ≠ key → (x.new key ⟨none, 0, 0⟩).g id = x.g id := fun id hne => upd_other _ _ hne
  have he : Ext x w (x.new key ⟨none, 0, 0⟩) w := ⟨fun id q hq => by
    have hne : id ≠ key := by rintro rfl; rw [hfr] at hq; cases hq
    rw [hgo _ hne]; exact hq, fun _ _ h => h, fun _ _ h => h, fun _ _ _ => rfl⟩
  refine ⟨he, ?_, ?_, ?_, ?_, rel.okp, rel.old, rel.big, rel.okb, rel.laid⟩
  · intro i b hi
    by_cases h1 : i = key
    · subst h1; rw [upd_same] at hi; injection hi with hi; subst hi; exact ⟨_, hgk, .none _ _ _ rfl rfl rfl⟩
    · rw [upd_other _ _ h1] at hi
      obtain ⟨q, h2, h3⟩ := rel.box i b hi
      exact ⟨q, by rw [hgo _ h1]; exact h2, h3.ext he fun _ _ => rfl⟩
  · intro i j bi bj qi qj k hi hj hqi hqj hki hkj
    have h1 : i ≠ key := by rintro rfl; rw [hgk] at hqi; injection hqi with hqi; subst hqi; cases hki
    have h2 : j ≠ key := by rintro rfl; rw [hgk] at hqj; injection hqj with hqj; subst hqj; cases hkj
    rw [upd_other _ _ h1] at hi; rw [upd_other _ _ h2] at hj; rw [hgo _ h1] at hqi; rw [hgo _ h2] at hqj
    exact rel.apart i j bi bj qi qj k hi hj hqi hqj hki hkj
  · intro i bi qi k hi hh hqi hki
    have h1 : i ≠ key := by rintro rfl; rw [hgk] at hqi; injection hqi with hqi; subst hqi; cases hki
    rw [upd_other _ _ h1] at hi; rw [hgo _ h1] at hqi
    exact rel.own i bi qi k hi hh hqi hki
  · intro id q hq
    by_cases h1 : id = key
    · subst h1; exact upd_same _ _ _
    · rw [upd_other _ _ h1]; rw [hgo _ h1] at hq; exact rel.used id q hq

/-- A name's block goes over to a new name, and is turned. -/
theorem HRel.takeover (rel : HRel M B O x h u w) (hk : u key = false) {id : Nat} {b : Box} {q : Gh} {blk : Nat} (hb : h id = some b) (hh : b.hot = true) (hq : x.g id = some q) (hkb : q.blk = some blk)
    (cap len : Nat) (vs : Array Value) (e : TypeId) (bx : Box) (hbx : BRel (x.new key ⟨some blk, cap, len⟩) (World.putBlk w blk (.cells vs e (0, 0))) ⟨some blk, cap, len⟩ bx) :
    Ext x w (x.new key ⟨some blk, cap, len⟩) (World.putBlk w blk (.cells vs e (0, 0))) ∧
    HRel M B O (x.new key ⟨some blk, cap, len⟩) (upd (upd h id none) key (some bx)) (upd u key true) (World.putBlk w blk (.cells vs e (0, 0))) := by
  have hfr := rel.fresh hk
  have hown := rel.own id b q blk hb hh hq hkb
  have hgk : (x.new key ⟨some blk, cap, len⟩).g key = some ⟨some blk, cap, len⟩ := upd_same _ _ _
  have hgo : ∀ id, id ≠ key → (x.new key ⟨some blk, cap, len⟩).g id = x.g id := fun id hne => upd_other _ _ hne
  have he : Ext x w (x.new key ⟨some blk, cap, len⟩) (World.putBlk w blk (.cells vs e (0, 0))) := ⟨fun id q hq => by
    have hne : id ≠ key := by rintro rfl; rw [hfr] at hq; cases hq
    rw [hgo _ hne]; exact hq, fun _ _ h => h, fun _ _ h => h, (Ext.putBlk (w := w) hown.2 rel.okp _).cell⟩
  have hold : ∀ {i bi}, i ≠ key → upd (upd h id none) key (some bx) i = some bi → i ≠ id ∧ h i = some bi := by
    intro i bi hne hi
    rw [upd_other _ _ hne] at hi
    by_cases h1 : i = id
    · subst h1; rw [upd_same] at hi; cases hi
    · rw [upd_other _ _ h1] at hi; exact ⟨h1, hi⟩
  refine ⟨he, ?_, ?_, ?_, ?_, rel.okp, ?_, ?_, rel.okb, rel.laid.ext he⟩
  · intro i bi hi
    by_cases h1 : i = key
    · subst h1; rw [upd_same] at hi; injection hi with hi; subst hi; exact ⟨_, hgk, hbx⟩
    · obtain ⟨hne, hi'⟩ := hold h1 hi
      obtain ⟨qi, h2, h3⟩ := rel.box i bi hi'
      refine ⟨qi, by rw [hgo _ h1]; exact h2, h3.ext he fun k' hk' => putBlk_other ?_ _⟩
      rintro rfl
      exact hne (rel.apart i id bi b qi q _ hi' hb h2 hq hk' hkb)
  · intro i j bi bj qi qj k' hi hj hqi hqj hki hkj
    by_cases h1 : i = key
    · by_cases h2 : j = key
      · rw [h1, h2]
      · exfalso
        subst h1
        rw [hgk] at hqi; injection hqi with hqi; subst hqi
        injection hki with hki; subst hki
        obtain ⟨hne, hj'⟩ := hold h2 hj
        rw [hgo _ h2] at hqj
        exact hne (rel.apart j id bj b qj q _ hj' hb hqj hq hkj hkb)
    · by_cases h2 : j = key
      · exfalso
        subst h2
        rw [hgk] at hqj; injection hqj with hqj; subst hqj
        injection hkj with hkj; subst hkj
        obtain ⟨hne, hi'⟩ := hold h1 hi
        rw [hgo _ h1] at hqi
        exact hne (rel.apart i id bi b qi q _ hi' hb hqi hq hki hkb)
      · obtain ⟨_, hi'⟩ := hold h1 hi
        obtain ⟨_, hj'⟩ := hold h2 hj
        rw [hgo _ h1] at hqi; rw [hgo _ h2] at hqj
        exact rel.apart i j bi bj qi qj k' hi' hj' hqi hqj hki hkj
  · intro i bi qi k' hi hhi hqi hki
    by_cases h1 : i = key
    · subst h1
      rw [hgk] at hqi; injection hqi with hqi; subst hqi
      injection hki with hki; subst hki
      exact hown
    · obtain ⟨_, hi'⟩ := hold h1 hi
      rw [hgo _ h1] at hqi
      exact rel.own i bi qi k' hi' hhi hqi hki
  · intro i qi hqi
    by_cases h1 : i = key
    · subst h1; exact upd_same _ _ _
    · rw [upd_other _ _ h1]; rw [hgo _ h1] at hqi; exact rel.used i qi hqi
  · intro b' o hb'; rw [putBlk_size]; exact rel.old b' o hb'
  · rw [putBlk_size]; exact rel.big

theorem SlRow.ext {x' : Xs} {w' : World} (he : Ext x w x' w') (hc : ∀ ad, w'.cell? ad = w.cell? ad) {t : Ty} {ys : List (El t)} {a : Option Addr} {cp : Nat} {rd : Nat → Nat → Value} (hrow : SlRow x w t ys a cp rd) : SlRow x' w' t ys a cp rd :=
  ⟨hrow.cap, hrow.nil, fun i hi j hj => by obtain ⟨q, h1, h2, h3⟩ := hrow.cell i hi j hj; exact ⟨q, h1, h2, (hc _).trans h3⟩, fun i e hi j c hc' => (hrow.el i e hi j c hc').ext he⟩

/-- An append that takes a new block. -/
theorem append_grow {t u' e e2 ty : TypeId} {i : TI} {τ : Ty} {ts : Array Nat} (h0 : ts[0]? = some t) (h1 : ts[1]? = some u') (ht : P.underlying t = some (.slice e)) (hu : P.underlying u' = some (.slice e2)) (hT : TOK P e i)
    (rel : HRel M B O x h u w) (hk : u key = false) (hby : 0 < i.bytes) (hsz : i.size = width τ) {xs ys : List (El τ)} {base a : Option Addr} {sCap c : Nat} {rd1 rd2 : Nat → Nat → Value}
    (hx : SlRow x w τ xs base sCap rd1) (hy : SlRow x w τ ys a c rd2) (hfit : sCap < xs.length + ys.length) (hlim : xs.length + ys.length ≤ lim i.bytes) :
    ∃ v w' x', (Builtin.append_ ts ty #[.slice base xs.length sCap, .slice a ys.length c]).run P w = .ok v w' ∧ Ext x w x' w' ∧ Fr M B w w' ∧
      HRel M B O x' (upd h key (some (.arr e τ (xs ++ ys) false))) (upd u key true) w' ∧ IVRel x' w' v (.c (.sref key)) := by
  have hd : ∀ ad, w.drew.cell? ad = w.cell? ad := fun _ => rfl
  have f1 := run_first (P := P) hd hy ys.length c
  have f2 := run_first (P := P) hd hx xs.length sCap
  rw [← hsz] at f1 f2
  obtain ⟨z, hzs, hrun⟩ := run_append_grows (ty := ty) h0 h1 ht hu hT hby hfit hlim f1 f2
  have hge := grownCap_le w (xs.length + ys.length) sCap e
  generalize grownCap w (xs.length + ys.length) sCap e = gc at hrun hge
  rw [hsz] at hrun
  have hrel1 := rel.drew
  let vs : Array Value := (rowList rd1 xs.length (width τ)).toArray ++ (rowList rd2 ys.length (width τ)).toArray ++ Builtin.zeroCells z.cells (gc - (xs.length + ys.length))
  have hvs : vs.size = gc * width τ := by
    simp only [vs, Array.size_append, List.size_toArray, rowList_length, zeroCells_size, hzs, hsz]
    rw [← Nat.add_mul, ← Nat.add_mul]
    congr 1; omega
  have he2 := Ext.alloc hrel1 hk ⟨some w.drew.heap.size, gc, xs.length + ys.length⟩ (.cells vs e)
  have he := (Ext.drew x w).trans he2
  have hrow : ∀ i' e', (xs ++ ys)[i']? = some e' → ∀ (j : Nat) (c : IC), (enc τ e')[j]? = some c → VRel x w (vs.getD (i' * width τ + j) undef) c := by
    refine row_get (fun m hm => ?_) (fun m hm => ?_) hx.el hy.el
    · simp only [vs]
      rw [Array.append_assoc, Array.getElem?_append_left (by simp [rowList_length]; omega)]
      simp
    · simp only [vs]
      rw [Array.append_assoc, Array.getElem?_append_right (by simp [rowList_length])]
      simp only [List.size_toArray, rowList_length, Nat.add_sub_cancel_left]
      rw [Array.getElem?_append_left (by simp [rowList_length]; omega)]
      simp
  refine ⟨_, _, x.new key ⟨some w.drew.heap.size, gc, xs.length + ys.length⟩, hrun, he, (Fr.drew M B w).trans (Fr.alloc w.drew (show B ≤ w.drew.heap.size from rel.big) _), ?_, ?_⟩
  · refine hrel1.alloc hk vs e gc (xs.length + ys.length) _ (.arr _ _ _ _ w.drew.heap.size vs e rfl (heap_alloc_new _ _) (by simp) (by simpa using hge) hvs (fun i' e' hi' j c hc => (hrow i' e' hi' j c hc).ext he) (fun hf => by cases hf))
  · exact .c _ _ (VRel.sref key ⟨some w.drew.heap.size, gc, xs.length + ys.length⟩ (upd_same _ _ _))


end
end Go.Proofs.Ytdoilggfajngiaa.VE
