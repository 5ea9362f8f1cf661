/-
  Each operation of the ideal machine is the model's, continued: append, conversions.
-/
import Derived.Test.YthlbiibholhkmaaVK
namespace Go.Proofs.Ythlbiibholhkmaa.VE
open Go Go.RowKit

section
variable {P : Program} {cfg : Cfg} {M : Nat → Prop} {B key : Nat} {O : Nat → Nat → Prop} {x : Xs} {h hr : Nat → Option Box} {u : Nat → Bool} {w : World} {k : Out → R} {r : IV × List (Nat × Box)}

theorem Ext.drew (x : Xs) (w : World) : Ext x w x w.drew := ⟨fun _ _ h => h, fun _ _ h => h, fun _ _ h => h, fun _ _ _ => rfl⟩
theorem Fr.drew (M : Nat → Prop) (B : Nat) (w : World) : Fr M B w w.drew := ⟨rfl, rfl, rfl, Nat.le_refl _, fun _ _ _ => rfl⟩
theorem HRel.drew (rel : HRel M B O x h u w) : HRel M B O x h u w.drew :=
  ⟨fun i b hb => by obtain ⟨q, h1, h2⟩ := rel.box i b hb; exact ⟨q, h1, h2.ext (Ext.drew x w) fun _ _ => rfl⟩, rel.apart, rel.own, rel.used, rel.okp, rel.old, rel.big, rel.okb, rel.laid.ext (Ext.drew x w)⟩

/-- A new name without a block. -/
theorem HRel.empty (rel : HRel M B O x h u w) (hk : u key = false) (ty : Nat) (t : Ty) :
    Ext x w (x.new key ⟨none, 0, 0⟩) w ∧ HRel M B O (x.new key ⟨none, 0, 0⟩) (upd h key (some (.arr ty t [] false))) (upd u key true) w := by
  have hfr := rel.fresh hk
  have hgk : (x.new key ⟨none, 0, 0⟩).g key = some ⟨none, 0, 0⟩ := upd_same _ _ _
  have hgo : ∀ id, id ≠ key → (x.new key ⟨none, 0, 0⟩).g id = x.g id := fun id hne => upd_other _ _ hne
  have he : Ext x w (x.new key ⟨none, 0, 0⟩) w := ⟨fun id q hq => by
    have hne : id ≠ key := by rintro rfl; rw [hfr] at hq; cases hq
    rw [hgo _ hne]; exact hq, fun _ _ h => h, fun _ _ h => h, fun _ _ _ => rfl⟩
  refine ⟨he, ?_, ?_, ?_, ?_, rel.okp, rel.old, rel.big, rel.okb, rel.laid⟩
  · intro i b hi
    by_cases h1 : i = key
    · subst h1; rw [upd_same] at hi; injection hi with hi; subst hi; exact ⟨_, hgk, .none _ _ _ rfl rfl rfl⟩
    · rw [upd_other _ _ h1] at hi
      obtain ⟨q, h2, h3⟩ := rel.box i b hi
      exact ⟨q, by rw [hgo _ h1]; exact h2, h3.ext he fun _ _ => rfl⟩
  · intro i j bi bj qi qj k hi hj hqi hqj hki hkj
    have h1 : i ≠ key := by rintro rfl; rw [hgk] at hqi; injection hqi with hqi; subst hqi; cases hki
    have h2 : j ≠ key := by rintro rfl; rw [hgk] at hqj; injection hqj with hqj; subst hqj; cases hkj
    rw [upd_other _ _ h1] at hi; rw [upd_other _ _ h2] at hj; rw [hgo _ h1] at hqi; rw [hgo _ h2] at hqj
    exact rel.apart i j bi bj qi qj k hi hj hqi hqj hki hkj
  · intro i bi qi k hi hh hqi hki
    have h1 : i ≠ key := by rintro rfl; rw [hgk] at hqi; injection hqi with hqi; subst hqi; cases hki
    rw [upd_other _ _ h1] at hi; rw [hgo _ h1] at hqi
    exact rel.own i bi qi k hi hh hqi hki
  · intro id q hq
    by_cases h1 : id = key
    · subst h1; exact upd_same _ _ _
    · rw [upd_other _ _ h1]; rw [hgo _ h1] at hq; exact rel.used id q hq

/-- A name's block goes over to a new name, and is turned. -/
theorem HRel.takeover (rel : HRel M B O x h u w) (hk : u key = false) {id : Nat} {b : Box} {q : Gh} {blk : Nat} (hb : h id = some b) (hh : b.hot = true) (hq : x.g id = some q) (hkb : q.blk = some blk)
    (cap len : Nat) (vs : Array Value) (e : TypeId) (bx : Box) (hbx : BRel (x.new key ⟨some blk, cap, len⟩) (World.putBlk w blk (.cells vs e (0, 0))) ⟨some blk, cap, len⟩ bx) :
    Ext x w (x.new key ⟨some blk, cap, len⟩) (World.putBlk w blk (.cells vs e (0, 0))) ∧
    HRel M B O (x.new key ⟨some blk, cap, len⟩) (upd (upd h id none) key (some bx)) (upd u key true) (World.putBlk w blk (.cells vs e (0, 0))) := by
  have hfr := rel.fresh hk
  have hown := rel.own id b q blk hb hh hq hkb
  have hgk : (x.new key ⟨some blk, cap, len⟩).g key = some ⟨some blk, cap, len⟩ := upd_same _ _ _
  have hgo : ∀ id, id ≠ key → (x.new key ⟨some blk, cap, len⟩).g id = x.g id := fun id hne => upd_other _ _ hne
  have he : Ext x w (x.new key ⟨some blk, cap, len⟩) (World.putBlk w blk (.cells vs e (0, 0))) := ⟨fun id q hq => by
    have hne : id ≠ key := by rintro rfl; rw [hfr] at hq; cases hq
    rw [hgo _ hne]; exact hq, fun _ _ h => h, fun _ _ h => h, (Ext.putBlk (w := w) hown.2 rel.okp _).cell⟩
  have hold : ∀ {i bi}, i ≠ key → upd (upd h id none) key (some bx) i = some bi → i ≠ id ∧ h i = some bi := by
    intro i bi hne hi
    rw [upd_other _ _ hne] at hi
    by_cases h1 : i = id
    · subst h1; rw [upd_same] at hi; cases hi
    · rw [upd_other _ _ h1] at hi; exact ⟨h1, hi⟩
  refine ⟨he, ?_, ?_, ?_, ?_, rel.okp, ?_, ?_, rel.okb, rel.laid.ext he⟩
  · intro i bi hi
    by_cases h1 : i = key
    · subst h1; rw [upd_same] at hi; injection hi with hi; subst hi; exact ⟨_, hgk, hbx⟩
    · obtain ⟨hne, hi'⟩ := hold h1 hi
      obtain ⟨qi, h2, h3⟩ := rel.box i bi hi'
      refine ⟨qi, by rw [hgo _ h1]; exact h2, h3.ext he fun k' hk' => putBlk_other ?_ _⟩
      rintro rfl
      exact hne (rel.apart i id bi b qi q _ hi' hb h2 hq hk' hkb)
  · intro i j bi bj qi qj k' hi hj hqi hqj hki hkj
    by_cases h1 : i = key
    · by_cases h2 : j = key
      · rw [h1, h2]
      · exfalso
        subst h1
        rw [hgk] at hqi; injection hqi with hqi; subst hqi
        injection hki with hki; subst hki
        obtain ⟨hne, hj'⟩ := hold h2 hj
        rw [hgo _ h2] at hqj
        exact hne (rel.apart j id bj b qj q _ hj' hb hqj hq hkj hkb)
    · by_cases h2 : j = key
      · exfalso
        subst h2
        rw [hgk] at hqj; injection hqj with hqj; subst hqj
        injection hkj with hkj; subst hkj
        obtain ⟨hne, hi'⟩ := hold h1 hi
        rw [hgo _ h1] at hqi
        exact hne (rel.apart i id bi b qi q _ hi' hb hqi hq hki hkb)
      · obtain ⟨_, hi'⟩ := hold h1 hi
        obtain ⟨_, hj'⟩ := hold h2 hj
        rw [hgo _ h1] at hqi; rw [hgo _ h2] at hqj
        exact rel.apart i j bi bj qi qj k' hi' hj' hqi hqj hki hkj
  · intro i bi qi k' hi hhi hqi hki
    by_cases h1 : i = key
    · subst h1
      rw [hgk] at hqi; injection hqi with hqi; subst hqi
      injection hki with hki; subst hki
      exact hown
    · obtain ⟨_, hi'⟩ := hold h1 hi
      rw [hgo _ h1] at hqi
      exact rel.own i bi qi k' hi' hhi hqi hki
  · intro i qi hqi
    by_cases h1 : i = key
    · subst h1; exact upd_same _ _ _
    · rw [upd_other _ _ h1]; rw [hgo _ h1] at hqi; exact rel.used i qi hqi
  · intro b' o hb'; rw [putBlk_size]; exact rel.old b' o hb'
  · rw [putBlk_size]; exact rel.big

theorem SlRow.ext {x' : Xs} {w' : World} (he : Ext x w x' w') (hc : ∀ ad, w'.cell? ad = w.cell? ad) {t : Ty} {ys : List (El t)} {a : Option Addr} {cp : Nat} {rd : Nat → Nat → Value} (hrow : SlRow x w t ys a cp rd) : SlRow x' w' t ys a cp rd :=
  ⟨hrow.cap, hrow.nil, fun i hi j hj => by obtain ⟨q, h1, h2, h3⟩ := hrow.cell i hi j hj; exact ⟨q, h1, h2, (hc _).trans h3⟩, fun i e hi j c hc' => (hrow.el i e hi j c hc').ext he⟩

/-- An append that takes a new block. -/
theorem append_grow {t u' e e2 ty : TypeId} {i : TI} {τ : Ty} {ts : Array Nat} (h0 : ts[0]? = some t) (h1 : ts[1]? = some u') (ht : P.underlying t = some (.slice e)) (hu : P.underlying u' = some (.slice e2)) (hT : TOK P e i)
    (rel : HRel M B O x h u w) (hk : u key = false) (hby : 0 < i.bytes) (hsz : i.size = width τ) {xs ys : List (El τ)} {base a : Option Addr} {sCap c : Nat} {rd1 rd2 : Nat → Nat → Value}
    (hx : SlRow x w τ xs base sCap rd1) (hy : SlRow x w τ ys a c rd2) (hfit : sCap < xs.length + ys.length) (hlim : xs.length + ys.length ≤ lim i.bytes) :
    ∃ v w' x', (Builtin.append_ ts ty #[.slice base xs.length sCap, .slice a ys.length c]).run P w = .ok v w' ∧ Ext x w x' w' ∧ Fr M B w w' ∧
      HRel M B O x' (upd h key (some (.arr e τ (xs ++ ys) false))) (upd u key true) w' ∧ IVRel x' w' v (.c (.sref key)) := by
  have hd : ∀ ad, w.drew.cell? ad = w.cell? ad := fun _ => rfl
  have f1 := run_first (P := P) hd hy ys.length c
  have f2 := run_first (P := P) hd hx xs.length sCap
  rw [← hsz] at f1 f2
  obtain ⟨z, hzs, hrun⟩ := run_append_grows (ty := ty) h0 h1 ht hu hT hby hfit hlim f1 f2
  have hge := grownCap_le w (xs.length + ys.length) sCap e
  generalize grownCap w (xs.length + ys.length) sCap e = gc at hrun hge
  rw [hsz] at hrun
  have hrel1 := rel.drew
  let vs : Array Value := (rowList rd1 xs.length (width τ)).toArray ++ (rowList rd2 ys.length (width τ)).toArray ++ Builtin.zeroCells z.cells (gc - (xs.length + ys.length))
  have hvs : vs.size = gc * width τ := by
    simp only [vs, Array.size_append, List.size_toArray, rowList_length, zeroCells_size, hzs, hsz]
    rw [← Nat.add_mul, ← Nat.add_mul]
    congr 1; omega
  have he2 := Ext.alloc hrel1 hk ⟨some w.drew.heap.size, gc, xs.length + ys.length⟩ (.cells vs e)
  have he := (Ext.drew x w).trans he2
  have hrow : ∀ i' e', (xs ++ ys)[i']? = some e' → ∀ (j : Nat) (c : IC), (enc τ e')[j]? = some c → VRel x w (vs.getD (i' * width τ + j) undef) c := by
    refine row_get (fun m hm => ?_) (fun m hm => ?_) hx.el hy.el
    · simp only [vs]
      rw [Array.append_assoc, Array.getElem?_append_left (by simp [rowList_length]; omega)]
      simp
    · simp only [vs]
      rw [Array.append_assoc, Array.getElem?_append_right (by simp [rowList_length])]
      simp only [List.size_toArray, rowList_length, Nat.add_sub_cancel_left]
      rw [Array.getElem?_append_left (by simp [rowList_length]; omega)]
      simp
  refine ⟨_, _, x.new key ⟨some w.drew.heap.size, gc, xs.length + ys.length⟩, hrun, he, (Fr.drew M B w).trans (Fr.alloc w.drew (show B ≤ w.drew.heap.size from rel.big) _), ?_, ?_⟩
  · refine hrel1.alloc hk vs e gc (xs.length + ys.length) _ (.arr _ _ _ _ w.drew.heap.size vs e rfl (heap_alloc_new _ _) (by simp) (by simpa using hge) hvs (fun i' e' hi' j c hc => (hrow i' e' hi' j c hc).ext he) (fun hf => by cases hf))
  · exact .c _ _ (VRel.sref key ⟨some w.drew.heap.size, gc, xs.length + ys.length⟩ (upd_same _ _ _))

theorem appendK_sound (hty : TyOK P cfg.ty) (rel : HRel M B O x h u w) (hsub : ∀ i b, hr i = some b → h i = some b) {t u' ty : Nat} {ts : Array Nat} (h0 : ts[0]? = some t) (h1 : ts[1]? = some u') {a y : IV} {A Y : Value}
    (ha : IVRel x w A a) (hy : IVRel x w Y y) (H : appendK cfg key hr k t u' a y = some r) :
    ∃ out, k out = some r ∧ ((∀ i, i ∈ out.news → u i = false) → Step P M B O x h u w out (Builtin.append_ ts ty #[A, Y])) := by
  unfold appendK at H
  split at H
  case h_2 => cases H
  rename_i e e2 hd1 hd2
  obtain ⟨i, hi, H1⟩ := bindK_some H
  obtain ⟨τ, hτ, H2⟩ := bindK_some H1
  obtain ⟨ys, hys, H3⟩ := bindK_some H2
  obtain ⟨⟨hby, hsz⟩, H4⟩ := need_some H3
  clear H H1 H2 H3
  obtain ⟨d1, hu1, hdr1⟩ := hty.und hd1
  have hds1 := hdr1.sl; subst hds1
  obtain ⟨d2, hu2, hdr2⟩ := hty.und hd2
  have hds2 := hdr2.sl; subst hds2
  have hT := hty _ _ hi
  obtain ⟨ad, cy, rd2, rfl, hrow2⟩ := elems_sound rel hsub hy hys
  have hnilrow : SlRow x w τ [] none 0 (fun _ _ => undef) := ⟨Nat.le_refl _, fun _ => rfl, fun i hi => absurd hi (by simp), fun i e hi => by simp at hi⟩
  -- onto nothing
  have onto : ∀ (h' : Nat → Option Box), HRel M B O x h' u w → u key = false → ys.length ≤ lim i.bytes →
      ∃ v w' x', (Builtin.append_ ts ty #[.slice none 0 0, .slice ad ys.length cy]).run P w = .ok v w' ∧ Ext x w x' w' ∧ Fr M B w w' ∧
        HRel M B O x' (upd h' key (some (.arr e τ ys false))) (upd u key true) w' ∧ IVRel x' w' v (.c (.sref key)) := by
    intro h' rel' hk hl
    by_cases hz : ys.length = 0
    · have hy0 : ys = [] := List.length_eq_zero_iff.1 hz
      subst hy0
      obtain ⟨e1, e2'⟩ := rel'.empty hk e τ
      refine ⟨.slice none 0 0, w, _, ?_, e1, Fr.refl _ _ _, e2', .c _ _ (VRel.sref key ⟨none, 0, 0⟩ (upd_same _ _ _))⟩
      have f1 := run_first (P := P) (w1 := w) (fun _ => rfl) hrow2 0 cy
      rw [← hsz] at f1
      exact run_append_fits (base := none) (sLen := 0) (sCap := 0) (l := 0) h0 h1 hu1 hu2 hT (Nat.le_refl _) (news := rowList rd2 0 i.size) (fun n hn => by subst hn; simpa using f1) rfl
    · have := append_grow (key := key) (ty := ty) (sCap := 0) h0 h1 hu1 hu2 hT rel' hk hby hsz hnilrow hrow2 (by simp; omega) (by simpa using hl)
      simpa using this
  split at H4
  · obtain ⟨hl, H5⟩ := test_some H4
    have hl := of_decide_eq_true hl
    obtain ⟨rfl, _⟩ := iv_v ha
    refine ⟨_, H5, fun hf => ?_⟩
    exact onto h rel (hf key (by simp)) hl
  · rename_i id
    split at H4
    · rename_i ty' τ' xs' hbx
      obtain ⟨xs, hxs, H5⟩ := bindK_some H4
      obtain ⟨hl, H6⟩ := test_some H5
      clear H4 H5
      have hl := of_decide_eq_true hl
      obtain ⟨eτ, hxs'⟩ := asTy_some hxs
      subst eτ
      simp only [cast_eq] at hxs'
      subst hxs'
      refine ⟨_, H6, fun hf => ?_⟩
      have hk : u key = false := hf key (by simp)
      have hbox := hsub _ _ hbx
      obtain ⟨q', hq', hbr⟩ := rel.box _ _ hbox
      have ha' := iv_c ha
      cases ha' with
      | sref _ q hq =>
        rw [hq] at hq'; injection hq' with hq'; subst hq'
        have hbr0 := hbr
        cases hbr with
        | none _ _ _ g1 g2 g3 =>
          obtain ⟨v, w', x', p1, p2, p3, p4, p5⟩ := onto (upd h id none) (rel.drop id) hk (by simpa using hl)
          rw [g1, g2, g3]
          exact ⟨v, w', x', p1, p2, p3, p4, p5⟩
        | arr _ _ _ _ b vs e' g1 g2 g3 g4 g5 g6 g7 =>
          obtain ⟨_, rd1, hrow1⟩ := box_row hbr0
          have hrow1' : SlRow x w τ' xs (some ⟨b, 0, none⟩) q.cap rd1 := by rw [g1] at hrow1; exact hrow1
          have hval : Value.slice (q.blk.map fun b => ⟨b, 0, none⟩) q.len q.cap = .slice (some ⟨b, 0, none⟩) xs.length q.cap := by rw [g1, g3]; rfl
          rw [hval]
          by_cases hfit : xs.length + ys.length ≤ q.cap
          · have f1 := run_first (P := P) (w1 := w) (fun _ => rfl) hrow2 ys.length cy
            rw [← hsz] at f1
            have hmul : xs.length * width τ' + ys.length * width τ' ≤ vs.size := by
              rw [g5, ← Nat.add_mul]; exact Nat.mul_le_mul_right _ hfit
            have hone : ∀ v, v ∈ rowList rd2 ys.length i.size → v.oneCell' = true := by
              intro v hv
              obtain ⟨m, hm⟩ := List.mem_iff_getElem?.1 hv
              rw [hsz] at hm
              have hmlt : m < ys.length * width τ' := by
                rcases Nat.lt_or_ge m (ys.length * width τ') with h' | h'
                · exact h'
                · rw [List.getElem?_eq_none (by rw [rowList_length]; omega)] at hm; cases hm
              have hp := width_pos τ'
              have p1 : m / width τ' < ys.length := Nat.div_lt_of_lt_mul (by rw [Nat.mul_comm]; exact hmlt)
              have p2 : m % width τ' < width τ' := Nat.mod_lt _ hp
              have p3 : m / width τ' * width τ' + m % width τ' = m := by rw [Nat.mul_comm]; exact Nat.div_add_mod m (width τ')
              have p4 := rowList_get rd2 p1 p2
              rw [p3, hm] at p4; injection p4 with p4; subst p4
              have p5 : m % width τ' < (enc τ' (rdEl τ' ys (m / width τ'))).length := by rw [enc_length]; exact p2
              have p6 := hrow2.el _ _ (rdEl_get p1) _ _ (List.getElem?_eq_getElem p5)
              refine p6.one ?_
              have : ∀ (t : Ty) (e : El t) (c : IC), c ∈ enc t e → isJunk c = false := by
                intro t
                induction t with
                | int k => intro e c hc; simp [enc] at hc; subst hc; rfl
                | bool => intro e c hc; simp [enc] at hc; subst hc; rfl
                | str => intro e c hc; simp [enc] at hc; subst hc; rfl
                | sl t => intro e c hc; simp [enc] at hc; subst hc; rfl
                | pint k => intro e c hc; simp [enc] at hc; subst hc; rfl
                | prod a b iha ihb =>
                  intro e c hc
                  simp only [enc, List.mem_append] at hc
                  rcases hc with hc | hc
                  · exact iha _ _ hc
                  · exact ihb _ _ hc
              exact this _ _ _ (List.getElem_mem p5)
            have hst := run_storeCells (P := P) (k := b) (off := xs.length * i.size) (e := e') (rowList rd2 ys.length i.size) 0 w vs hone g2 (by rw [rowList_length, hsz]; omega)
            have hrow : ∀ i' el, (xs ++ ys)[i']? = some el → ∀ (j : Nat) (c : IC), (enc τ' el)[j]? = some c → VRel x w ((wr vs (xs.length * i.size) (rowList rd2 ys.length i.size)).getD (i' * width τ' + j) undef) c := by
              refine row_get (rd1 := rd1) (rd2 := rd2) (fun m hm => ?_) (fun m hm => ?_) hrow1.el hrow2.el
              · rw [wr_get _ _ _ _ (by rw [rowList_length, hsz]; omega), hsz, if_pos hm]
                have hp := width_pos τ'
                have p1 : m / width τ' < xs.length := Nat.div_lt_of_lt_mul (by rw [Nat.mul_comm]; exact hm)
                have p2 : m % width τ' < width τ' := Nat.mod_lt _ hp
                have p3 : m / width τ' * width τ' + m % width τ' = m := by rw [Nat.mul_comm]; exact Nat.div_add_mod m (width τ')
                obtain ⟨q1, s1, s2, s3⟩ := hrow1'.cell _ p1 _ p2
                injection s1 with s1; subst s1
                rw [cell_of g2, Nat.zero_add] at s3
                have p4 := rowList_get rd1 p1 p2
                rw [p3] at p4 s3
                rw [p4, s3]
              · rw [wr_get _ _ _ _ (by rw [rowList_length, hsz]; omega), hsz, if_neg (by omega), if_pos (by rw [rowList_length]; omega), Nat.add_sub_cancel_left]
            have htk := rel.takeover hk hbox rfl hq g1 q.cap (xs.length + ys.length) (wr vs (xs.length * i.size) (rowList rd2 ys.length i.size)) e' (.arr e τ' (xs ++ ys) false)
            have hbx' : BRel (x.new key ⟨some b, q.cap, xs.length + ys.length⟩) (World.putBlk w b (.cells (wr vs (xs.length * i.size) (rowList rd2 ys.length i.size)) e' (0, 0))) ⟨some b, q.cap, xs.length + ys.length⟩ (.arr e τ' (xs ++ ys) false) := by
              have hown := rel.own id _ q b hbox rfl hq g1
              have he : Ext x w (x.new key ⟨some b, q.cap, xs.length + ys.length⟩) (World.putBlk w b (.cells (wr vs (xs.length * i.size) (rowList rd2 ys.length i.size)) e' (0, 0))) :=
                ⟨fun id' q' hq' => by
                  have hne : id' ≠ key := by rintro rfl; rw [rel.fresh hk] at hq'; cases hq'
                  show upd x.g key _ id' = _
                  rw [upd_other _ _ hne]; exact hq', fun _ _ h => h, fun _ _ h => h, (Ext.putBlk (w := w) hown.2 rel.okp _).cell⟩
              exact .arr _ _ _ _ b _ e' rfl (putBlk_same (lt_of_some g2) _) (by simp) (by simpa using hfit) (by rw [wr_size, g5]) (fun i' el hi' j c hc => (hrow i' el hi' j c hc).ext he) (fun hf => by cases hf)
            obtain ⟨he, hrel'⟩ := htk hbx'
            refine ⟨_, _, _, ?_, he, Fr.putBlk (rel.own id _ q b hbox rfl hq g1).1 _, hrel', .c _ _ (VRel.sref key ⟨some b, q.cap, xs.length + ys.length⟩ (upd_same _ _ _))⟩
            refine run_append_fits (base := some ⟨b, 0, none⟩) h0 h1 hu1 hu2 hT hfit (news := rowList rd2 ys.length i.size) (fun n hn => by subst hn; exact f1) ?_
            show (storeCells ((⟨b, 0, none⟩ : Addr).add (xs.length * i.size)) _).run P w = _
            rw [add_none, Nat.zero_add]
            rw [Nat.add_zero] at hst
            exact hst
          · obtain ⟨v, w', x', p1, p2, p3, p4, p5⟩ := append_grow (key := key) (ty := ty) h0 h1 hu1 hu2 hT (rel.drop id) hk hby hsz hrow1' hrow2 (by omega) hl
            exact ⟨v, w', x', p1, p2, p3, p4, p5⟩
    · cases H4
  · cases H4

theorem convertK_sound (hty : TyOK P cfg.ty) (rel : HRel M B O x h u w) (hsub : ∀ i b, hr i = some b → h i = some b) {s d : Nat} {a : IV} {A : Value} (ha : IVRel x w A a) (H : convertK cfg hr k s d a = some r) :
    ∃ out, k out = some r ∧ Step P M B O x h u w out (convert s d A) := by
  unfold convertK at H
  split at H
  · rename_i K hd
    split at H
    · rename_i K' n
      obtain ⟨ds, hds, H1⟩ := bindK_some H
      obtain ⟨rfl, _⟩ := iv_v ha
      obtain ⟨d1, hu1, hdr1⟩ := hty.und hd
      have e1 := hdr1.int; subst e1
      obtain ⟨d2, hu2, _⟩ := hty.und hds
      refine ⟨_, H1, Step.pure (v := .int K (K.wrap n)) rel ?_ (vrel_int _ _)⟩
      simp only [convert, Sem.run_bind, run_underlying hu1, run_underlying hu2, Result.andThen_ok]
      cases d2 <;> rfl
    · cases H
  · rename_i hd
    obtain ⟨d1, hu1, hdr1⟩ := hty.und hd
    have e1 := hdr1.str; subst e1
    split at H
    · rename_i hds
      split at H
      · obtain ⟨rfl, _⟩ := iv_v ha
        obtain ⟨d2, hu2, hdr2⟩ := hty.und hds
        have e2 := hdr2.str; subst e2
        refine ⟨_, H, Step.pure rel ?_ (vrel_str _)⟩
        simp only [convert, Sem.run_bind, run_underlying hu1, run_underlying hu2, Result.andThen_ok]
        rfl
      · cases H
    · rename_i e hds
      obtain ⟨hm, H1⟩ := need_some H
      obtain ⟨l, hl, H2⟩ := bindK_some H1
      clear H H1
      obtain ⟨d2, hu2, hdr2⟩ := hty.und hds
      have e2 := hdr2.sl; subst e2
      have hde : dOf cfg.ty e = some (.int .u8) := by
        split at hm
        · assumption
        · cases hm
      obtain ⟨d3, hu3, hdr3⟩ := hty.und hde
      have e3 := hdr3.int; subst e3
      obtain ⟨ad, cp, rd, rfl, hrow⟩ := elems_sound rel hsub ha hl
      refine ⟨_, H2, Step.pure (v := .string ⟨(l.map fun n => UInt8.ofNat n.toNat).toArray⟩) rel ?_ (vrel_str _)⟩
      simp only [convert, Sem.run_bind, run_underlying hu1, run_underlying hu2, run_underlying hu3, Result.andThen_ok]
      -- the bytes, one by one
      have hf := run_first (P := P) (w1 := w) (fun _ => rfl) hrow l.length cp
      have hrl : rowList rd l.length (width (.int .u8)) = l.map fun n => Value.int .u8 n := by
        apply List.ext_getElem?
        intro j
        by_cases hj : j < l.length
        · have := rowList_get rd hj (show 0 < width (.int .u8) from Nat.one_pos)
          have e9 : j * width (.int .u8) + 0 = j := by simp [width]
          rw [e9] at this
          rw [this]
          have hv := hrow.el j l[j] (List.getElem?_eq_getElem hj) 0 _ rfl
          simp only [List.getElem?_map, List.getElem?_eq_getElem hj, Option.map_some]
          generalize rd j 0 = V at hv
          cases hv; rfl
        · rw [List.getElem?_eq_none (by rw [rowList_length]; simp [width]; omega), List.getElem?_eq_none (by simp; omega)]
      rw [hrl] at hf
      have hw1 : width (.int .u8) = 1 := rfl
      rw [hw1] at hf
      have loop : ∀ (l : List Int) (s : ByteArray), (forIn (m := Sem) (l.map fun n => Value.int .u8 n) s fun c s => (match c with | .int .u8 n => pure (ForInStep.yield (s.push (UInt8.ofNat n.toNat))) | _ => do stuck (α := PUnit) "bytesToString: byte expected"; pure (ForInStep.yield s) : Sem (ForInStep ByteArray))).run P w =
          .ok ⟨s.data ++ (l.map fun n => UInt8.ofNat n.toNat).toArray⟩ w := by
        intro l
        induction l with
        | nil => intro s; simp
        | cons n l ih =>
          intro s
          simp only [List.map_cons, List.forIn_cons, Sem.run_bind, Sem.run_pure, Result.andThen_ok]
          rw [ih]
          congr 1
          cases s
          simp [ByteArray.push]
      cases ad with
      | none =>
        have h0 := hrow.nil rfl
        have h1 := hrow.cap
        have hl0 : l = [] := List.length_eq_zero_iff.1 (by omega)
        subst hl0
        rfl
      | some ad =>
        simp only [Conv.bytesToString, Sem.run_bind]
        simp only [Builtin.firstCells, Nat.mul_one] at hf
        rw [hf, Result.andThen_ok, ← Array.forIn_toList]
        have := loop l ByteArray.empty
        refine (congrArg (fun z : Result ByteArray => z.andThen fun a w' => (Pure.pure (Value.string a) : Sem Value).run P w') this).trans ?_
        simp
    · cases H
  · cases H

end
end Go.Proofs.Ythlbiibholhkmaa.VE
