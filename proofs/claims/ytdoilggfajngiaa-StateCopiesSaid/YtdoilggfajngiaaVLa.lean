/-
  Each operation of the ideal machine is the model's, continued: places in one's own rows.
-/
import Derived.Test.YtdoilggfajngiaaVL
import Derived.Lib.AppendZerosOnto
namespace Go.Proofs.Ytdoilggfajngiaa.VE
open Go Go.RowKit

theorem over_length {α : Type} (xs : List α) (i : Nat) (ys : List α) (h : i ≤ xs.length) : (over xs i ys).length = max xs.length (i + ys.length) := by
  simp only [over, List.length_append, List.length_take, List.length_drop]
  omega

theorem over_get {α : Type} (xs : List α) (i : Nat) (ys : List α) (h : i ≤ xs.length) (j : Nat) : (over xs i ys)[j]? = if j < i then xs[j]? else if j < i + ys.length then ys[j - i]? else xs[j]? := by
  unfold over
  have hl : (xs.take i).length = i := by simp [h]
  by_cases h1 : j < i
  · rw [if_pos h1, List.getElem?_append_left (by omega), List.getElem?_take_of_lt h1]
  · rw [if_neg h1, List.getElem?_append_right (by omega), hl]
    by_cases h2 : j < i + ys.length
    · rw [if_pos h2, List.getElem?_append_left (by omega)]
    · rw [if_neg h2, List.getElem?_append_right (by omega), List.getElem?_drop]
      congr 1; omega

section
variable {P : Program} {cfg : Cfg} {M : Nat → Prop} {B key : Nat} {O : Nat → Nat → Prop} {x : Xs} {h hr : Nat → Option Box} {u : Nat → Bool} {w : World} {k : Out → R} {r : IV × List (Nat × Box)}

theorem enc_nojunk : ∀ (t : Ty) (e : El t) (c : IC), c ∈ enc t e → isJunk c = false := by
  intro t
  induction t with
  | int k => intro e c hc; simp [enc] at hc; subst hc; rfl
  | bool => intro e c hc; simp [enc] at hc; subst hc; rfl
  | str => intro e c hc; simp [enc] at hc; subst hc; rfl
  | sl t => intro e c hc; simp [enc] at hc; subst hc; rfl
  | pint k => intro e c hc; simp [enc] at hc; subst hc; rfl
  | addr => intro e c hc; simp [enc] at hc; subst hc; rfl
  | prod a b iha ihb =>
    intro e c hc
    simp only [enc, List.mem_append] at hc
    rcases hc with hc | hc
    · exact iha _ _ hc
    · exact ihb _ _ hc

/-- A row of one's own: closed, or open behind. -/
def OwnRow (h : Nat → Option Box) (id ty : Nat) (t : Ty) (xs : List (El t)) (opn : Bool) : Prop := h id = some (bif opn then .row ty t xs else .arr ty t xs false)

structure RowIn (x : Xs) (w : World) (q : Gh) (t : Ty) (xs : List (El t)) (b : Nat) (vs : Array Value) (e : TypeId) : Prop where
  blk : q.blk = some b
  obj : w.heap[b]? = some (.cells vs e (0, 0))
  size : vs.size = q.cap * width t
  el : ∀ i el, xs[i]? = some el → ∀ (j : Nat) (c : IC), (enc t el)[j]? = some c → VRel x w (vs.getD (i * width t + j) undef) c

theorem OwnRow.facts (rel : HRel M B O x h u w) {id ty : Nat} {t : Ty} {xs : List (El t)} {opn : Bool} (hb : OwnRow h id ty t xs opn) {q : Gh} (hq : x.g id = some q) :
    xs.length ≤ q.cap ∧ (opn = false → q.len = xs.length) ∧ ((q.blk = none ∧ q.cap = 0 ∧ xs = []) ∨ ∃ b vs e, RowIn x w q t xs b vs e) := by
  obtain ⟨q', hq', hbr⟩ := rel.box _ _ hb
  rw [hq] at hq'; injection hq' with hq'; subst hq'
  cases opn with
  | false =>
    cases hbr with
    | none _ _ _ h1 h2 h3 => exact ⟨Nat.zero_le _, fun _ => h3, .inl ⟨h1, h2, rfl⟩⟩
    | arr _ _ _ _ b vs e h1 h2 h3 h4 h5 h6 h7 => exact ⟨h4, fun _ => h3, .inr ⟨b, vs, e, h1, h2, h5, h6⟩⟩
  | true =>
    cases hbr with
    | row0 _ _ h1 h2 => exact ⟨Nat.zero_le _, fun h => (by cases h), .inl ⟨h1, h2, rfl⟩⟩
    | row _ _ _ b vs e h1 h2 h4 h5 h6 => exact ⟨h4, fun h => (by cases h), .inr ⟨b, vs, e, h1, h2, h5, h6⟩⟩

theorem OwnRow.own (rel : HRel M B O x h u w) {id ty : Nat} {t : Ty} {xs : List (El t)} {opn : Bool} (hb : OwnRow h id ty t xs opn) {q : Gh} (hq : x.g id = some q) {b : Nat} (hk : q.blk = some b) : (B ≤ b ∨ M b) ∧ ∀ o, ¬ x.okp b o :=
  rel.own id _ q b hb (by cases opn <;> rfl) hq hk

/-- A part of one's own row, as a slice. -/
theorem OwnRow.slice (rel : HRel M B O x h u w) {id ty : Nat} {t : Ty} {xs : List (El t)} {opn : Bool} (hb : OwnRow h id ty t xs opn) {q : Gh} (hq : x.g id = some q) {lo n o : Nat} (hl : lo + n ≤ xs.length)
    (ho : lo < q.cap ∨ lo = 0 → o = lo * width t) : ∃ rd, SlRow x w t ((xs.drop lo).take n) (q.blk.map fun b => ⟨b, o, none⟩) (q.cap - lo) rd := by
  obtain ⟨f1, _, f3⟩ := hb.facts rel hq
  have hlen : ((xs.drop lo).take n).length = n := by simp; omega
  rcases f3 with ⟨g1, g2, g3⟩ | ⟨b, vs, e, g⟩
  · subst g3
    simp at hl
    obtain ⟨rfl, rfl⟩ := hl
    refine ⟨fun _ _ => undef, ⟨by simp, fun _ => by omega, fun i hi => absurd hi (by simp), fun i e hi => by simp at hi⟩⟩
  · refine ⟨fun i j => vs.getD ((lo + i) * width t + j) undef, ⟨by rw [hlen]; omega, fun hn => (by rw [g.blk] at hn; simp at hn), fun i hi j hj => ⟨⟨b, o, none⟩, by rw [g.blk]; rfl, rfl, ?_⟩, fun i e hi j c hc => ?_⟩⟩
    · rw [hlen] at hi
      have ho' := ho (.inl (by omega))
      have hlt : (lo + i) * width t + j < vs.size := by
        rw [g.size]
        have : (lo + i + 1) * width t ≤ q.cap * width t := Nat.mul_le_mul_right _ (by omega)
        rw [Nat.add_mul] at this; omega
      rw [ho', ← Nat.add_assoc, ← Nat.add_mul, cell_of g.obj]
      simp [Array.getD, hlt]
    · have hi' : i < n := by
        rcases Nat.lt_or_ge i n with h' | h'
        · exact h'
        · rw [List.getElem?_eq_none (by omega)] at hi; cases hi
      rw [List.getElem?_take_of_lt hi', List.getElem?_drop] at hi
      exact g.el _ _ hi j c hc

theorem asTy_own {hr h : Nat → Option Box} (hsub : ∀ i b, hr i = some b → h i = some b) {t t' : Ty} {xs' : List (El t')} {xs : List (El t)} {id ty : Nat} {opn : Bool} (hb : hr id = some (bif opn then .row ty t' xs' else .arr ty t' xs' false)) (ha : asTy t t' xs' = some xs) :
    OwnRow h id ty t xs opn := by
  obtain ⟨e, he⟩ := asTy_some ha
  subst e
  simp only [cast_eq] at he
  subst he
  exact hsub _ _ hb

theorem elemsK_sound (rel : HRel M B O x h u w) (hsub : ∀ i b, hr i = some b → h i = some b) {t : Ty} {a : IV} {A : Value} {kk : List (El t) → R} (ha : IVRel x w A a) (H : elemsK hr t a kk = some r) :
    ∃ ys ad cap rd, kk ys = some r ∧ A = .slice ad ys.length cap ∧ SlRow x w t ys ad cap rd := by
  unfold elemsK at H
  split at H
  · rename_i id wd lo n c
    have main : ∀ (ty : Nat) (xs : List (El t)) (opn : Bool), OwnRow h id ty t xs opn ∨ (∃ fr, h id = some (.arr ty t xs fr)) → need (wd = width t) (test (decide (lo + n ≤ xs.length)) (kk ((xs.drop lo).take n))) = some r →
        ∃ ys ad cap rd, kk ys = some r ∧ A = .slice ad ys.length cap ∧ SlRow x w t ys ad cap rd := by
      intro ty xs opn hb H
      obtain ⟨hwd, H1⟩ := need_some H
      obtain ⟨hl, H2⟩ := test_some H1
      have hl := of_decide_eq_true hl
      have hlen : ((xs.drop lo).take n).length = n := by simp; omega
      cases iv_c ha with
      | view _ _ _ _ _ q o hg hle ho hc =>
        subst hwd
        rcases hb with hb | ⟨fr, hb⟩
        · obtain ⟨rd, hrow⟩ := hb.slice rel hg hl ho
          exact ⟨_, _, _, rd, H2, by rw [hlen], hrow⟩
        · -- of a frozen row, too
          obtain ⟨q', hq', hbr⟩ := rel.box _ _ hb
          rw [hg] at hq'; injection hq' with hq'; subst hq'
          cases hbr with
          | none _ _ _ g1 g2 g3 =>
            simp at hl
            obtain ⟨rfl, rfl⟩ := hl
            exact ⟨_, _, _, fun _ _ => undef, H2, rfl, ⟨by simp, fun _ => by omega, fun i hi => absurd hi (by simp), fun i e hi => by simp at hi⟩⟩
          | arr _ _ _ _ b vs e g1 g2 g3 g4 g5 g6 g7 =>
            refine ⟨_, _, _, fun i j => vs.getD ((lo + i) * width t + j) undef, H2, by rw [hlen], ⟨by rw [hlen]; omega, fun hn => (by rw [g1] at hn; simp at hn), fun i hi j hj => ⟨⟨b, o, none⟩, by rw [g1]; rfl, rfl, ?_⟩, fun i e hi j c hc => ?_⟩⟩
            · rw [hlen] at hi
              have ho' := ho (.inl (by omega))
              have hlt : (lo + i) * width t + j < vs.size := by
                rw [g5]
                have : (lo + i + 1) * width t ≤ q.cap * width t := Nat.mul_le_mul_right _ (by omega)
                rw [Nat.add_mul] at this; omega
              rw [ho', ← Nat.add_assoc, ← Nat.add_mul, cell_of g2]
              simp [Array.getD, hlt]
            · have hi' : i < n := by
                rcases Nat.lt_or_ge i n with h' | h'
                · exact h'
                · rw [List.getElem?_eq_none (by omega)] at hi; cases hi
              rw [List.getElem?_take_of_lt hi', List.getElem?_drop] at hi
              exact g6 _ _ hi j c hc
    split at H
    · rename_i ty t' xs' fr hbx
      obtain ⟨xs, hxs, H1⟩ := bindK_some H
      obtain ⟨e, he⟩ := asTy_some hxs
      subst e
      simp only [cast_eq] at he
      subst he
      exact main ty xs false (.inr ⟨fr, hsub _ _ hbx⟩) H1
    · rename_i ty t' xs' hbx
      obtain ⟨xs, hxs, H1⟩ := bindK_some H
      exact main ty xs true (.inl (asTy_own hsub (opn := true) hbx hxs)) H1
    · cases H
  · obtain ⟨ys, hys, H1⟩ := bindK_some H
    obtain ⟨ad, cap, rd, h1, h2⟩ := elems_sound rel hsub ha hys
    exact ⟨ys, ad, cap, rd, H1, h1, h2⟩

theorem appendK_sound (hty : TyOK P cfg.ty) (rel : HRel M B O x h u w) (hsub : ∀ i b, hr i = some b → h i = some b) {t u' ty : Nat} {ts : Array Nat} (h0 : ts[0]? = some t) (h1 : ts[1]? = some u') {a y : IV} {A Y : Value}
    (ha : IVRel x w A a) (hy : IVRel x w Y y) (H : appendK cfg key hr k t u' a y = some r) :
    ∃ out, k out = some r ∧ ((∀ i, i ∈ out.news → u i = false) → Step P M B O x h u w out (Builtin.append_ ts ty #[A, Y])) := by
  unfold appendK at H
  split at H
  case h_2 => cases H
  rename_i e e2 hd1 hd2
  obtain ⟨i, hi, H1⟩ := bindK_some H
  obtain ⟨τ, hτ, H2⟩ := bindK_some H1
  obtain ⟨ys, ad, cy, rd2, H3, rfl, hrow2⟩ := elemsK_sound rel hsub hy H2
  obtain ⟨⟨hby, hsz⟩, H4⟩ := need_some H3
  clear H H1 H2 H3
  obtain ⟨d1, hu1, hdr1⟩ := hty.und hd1
  have hds1 := hdr1.sl; subst hds1
  obtain ⟨d2, hu2, hdr2⟩ := hty.und hd2
  have hds2 := hdr2.sl; subst hds2
  have hT := hty _ _ hi
  have hnilrow : SlRow x w τ [] none 0 (fun _ _ => undef) := ⟨Nat.le_refl _, fun _ => rfl, fun i hi => absurd hi (by simp), fun i e hi => by simp at hi⟩
  -- onto nothing
  have onto : ∀ (h' : Nat → Option Box), HRel M B O x h' u w → u key = false → ys.length ≤ lim i.bytes →
      ∃ v w' x', (Builtin.append_ ts ty #[.slice none 0 0, .slice ad ys.length cy]).run P w = .ok v w' ∧ Ext x w x' w' ∧ Fr M B w w' ∧
        HRel M B O x' (upd h' key (some (.arr e τ ys false))) (upd u key true) w' ∧ IVRel x' w' v (.c (.sref key)) := by
    intro h' rel' hk hl
    by_cases hz : ys.length = 0
    · have hy0 : ys = [] := List.length_eq_zero_iff.1 hz
      subst hy0
      obtain ⟨e1, e2'⟩ := rel'.empty hk e τ
      refine ⟨.slice none 0 0, w, _, ?_, e1, Fr.refl _ _ _, e2', .c _ _ (VRel.sref key ⟨none, 0, 0⟩ (upd_same _ _ _))⟩
      have f1 := run_first (P := P) (w1 := w) (fun _ => rfl) hrow2 0 cy
      rw [← hsz] at f1
      exact run_append_fits (base := none) (sLen := 0) (sCap := 0) (l := 0) h0 h1 hu1 hu2 hT (Nat.le_refl _) (news := rowList rd2 0 i.size) (fun n hn => by subst hn; simpa using f1) rfl
    · have := append_grow (key := key) (ty := ty) (sCap := 0) h0 h1 hu1 hu2 hT rel' hk hby hsz hnilrow hrow2 (by simp; omega) (by simpa using hl)
      simpa using this
  split at H4
  · obtain ⟨hl, H5⟩ := test_some H4
    have hl := of_decide_eq_true hl
    obtain ⟨rfl, _⟩ := iv_v ha
    refine ⟨_, H5, fun hf => ?_⟩
    exact onto h rel (hf key (by simp)) hl
  · rename_i id
    split at H4
    · rename_i ty' τ' xs' hbx
      obtain ⟨xs, hxs, H5⟩ := bindK_some H4
      obtain ⟨hl, H6⟩ := test_some H5
      clear H4 H5
      have hl := of_decide_eq_true hl
      obtain ⟨eτ, hxs'⟩ := asTy_some hxs
      subst eτ
      simp only [cast_eq] at hxs'
      subst hxs'
      refine ⟨_, H6, fun hf => ?_⟩
      have hk : u key = false := hf key (by simp)
      have hbox := hsub _ _ hbx
      obtain ⟨q', hq', hbr⟩ := rel.box _ _ hbox
      have ha' := iv_c ha
      cases ha' with
      | sref _ q hq =>
        rw [hq] at hq'; injection hq' with hq'; subst hq'
        have hbr0 := hbr
        cases hbr with
        | none _ _ _ g1 g2 g3 =>
          obtain ⟨v, w', x', p1, p2, p3, p4, p5⟩ := onto (upd h id none) (rel.drop id) hk (by simpa using hl)
          rw [g1, g2, g3]
          exact ⟨v, w', x', p1, p2, p3, p4, p5⟩
        | arr _ _ _ _ b vs e' g1 g2 g3 g4 g5 g6 g7 =>
          obtain ⟨_, rd1, hrow1⟩ := box_row hbr0
          have hrow1' : SlRow x w τ' xs (some ⟨b, 0, none⟩) q.cap rd1 := by rw [g1] at hrow1; exact hrow1
          have hval : Value.slice (q.blk.map fun b => ⟨b, 0, none⟩) q.len q.cap = .slice (some ⟨b, 0, none⟩) xs.length q.cap := by rw [g1, g3]; rfl
          rw [hval]
          by_cases hfit : xs.length + ys.length ≤ q.cap
          · have f1 := run_first (P := P) (w1 := w) (fun _ => rfl) hrow2 ys.length cy
            rw [← hsz] at f1
            have hmul : xs.length * width τ' + ys.length * width τ' ≤ vs.size := by
              rw [g5, ← Nat.add_mul]; exact Nat.mul_le_mul_right _ hfit
            have hone : ∀ v, v ∈ rowList rd2 ys.length i.size → v.oneCell' = true := by
              intro v hv
              obtain ⟨m, hm⟩ := List.mem_iff_getElem?.1 hv
              rw [hsz] at hm
              have hmlt : m < ys.length * width τ' := by
                rcases Nat.lt_or_ge m (ys.length * width τ') with h' | h'
                · exact h'
                · rw [List.getElem?_eq_none (by rw [rowList_length]; omega)] at hm; cases hm
              have hp := width_pos τ'
              have p1 : m / width τ' < ys.length := Nat.div_lt_of_lt_mul (by rw [Nat.mul_comm]; exact hmlt)
              have p2 : m % width τ' < width τ' := Nat.mod_lt _ hp
              have p3 : m / width τ' * width τ' + m % width τ' = m := by rw [Nat.mul_comm]; exact Nat.div_add_mod m (width τ')
              have p4 := rowList_get rd2 p1 p2
              rw [p3, hm] at p4; injection p4 with p4; subst p4
              have p5 : m % width τ' < (enc τ' (rdEl τ' ys (m / width τ'))).length := by rw [enc_length]; exact p2
              have p6 := hrow2.el _ _ (rdEl_get p1) _ _ (List.getElem?_eq_getElem p5)
              refine p6.one ?_
              have : ∀ (t : Ty) (e : El t) (c : IC), c ∈ enc t e → isJunk c = false := by
                intro t
                induction t with
                | int k => intro e c hc; simp [enc] at hc; subst hc; rfl
                | bool => intro e c hc; simp [enc] at hc; subst hc; rfl
                | str => intro e c hc; simp [enc] at hc; subst hc; rfl
                | sl t => intro e c hc; simp [enc] at hc; subst hc; rfl
                | pint k => intro e c hc; simp [enc] at hc; subst hc; rfl
                | addr => intro e c hc; simp [enc] at hc; subst hc; rfl
                | prod a b iha ihb =>
                  intro e c hc
                  simp only [enc, List.mem_append] at hc
                  rcases hc with hc | hc
                  · exact iha _ _ hc
                  · exact ihb _ _ hc
              exact this _ _ _ (List.getElem_mem p5)
            have hst := run_storeCells (P := P) (k := b) (off := xs.length * i.size) (e := e') (rowList rd2 ys.length i.size) 0 w vs hone g2 (by rw [rowList_length, hsz]; omega)
            have hrow : ∀ i' el, (xs ++ ys)[i']? = some el → ∀ (j : Nat) (c : IC), (enc τ' el)[j]? = some c → VRel x w ((wr vs (xs.length * i.size) (rowList rd2 ys.length i.size)).getD (i' * width τ' + j) undef) c := by
              refine row_get (rd1 := rd1) (rd2 := rd2) (fun m hm => ?_) (fun m hm => ?_) hrow1.el hrow2.el
              · rw [wr_get _ _ _ _ (by rw [rowList_length, hsz]; omega), hsz, if_pos hm]
                have hp := width_pos τ'
                have p1 : m / width τ' < xs.length := Nat.div_lt_of_lt_mul (by rw [Nat.mul_comm]; exact hm)
                have p2 : m % width τ' < width τ' := Nat.mod_lt _ hp
                have p3 : m / width τ' * width τ' + m % width τ' = m := by rw [Nat.mul_comm]; exact Nat.div_add_mod m (width τ')
                obtain ⟨q1, s1, s2, s3⟩ := hrow1'.cell _ p1 _ p2
                injection s1 with s1; subst s1
                rw [cell_of g2, Nat.zero_add] at s3
                have p4 := rowList_get rd1 p1 p2
                rw [p3] at p4 s3
                rw [p4, s3]
              · rw [wr_get _ _ _ _ (by rw [rowList_length, hsz]; omega), hsz, if_neg (by omega), if_pos (by rw [rowList_length]; omega), Nat.add_sub_cancel_left]
            have htk := rel.takeover hk hbox rfl hq g1 q.cap (xs.length + ys.length) (wr vs (xs.length * i.size) (rowList rd2 ys.length i.size)) e' (.arr e τ' (xs ++ ys) false)
            have hbx' : BRel (x.new key ⟨some b, q.cap, xs.length + ys.length⟩) (World.putBlk w b (.cells (wr vs (xs.length * i.size) (rowList rd2 ys.length i.size)) e' (0, 0))) ⟨some b, q.cap, xs.length + ys.length⟩ (.arr e τ' (xs ++ ys) false) := by
              have hown := rel.own id _ q b hbox rfl hq g1
              have he : Ext x w (x.new key ⟨some b, q.cap, xs.length + ys.length⟩) (World.putBlk w b (.cells (wr vs (xs.length * i.size) (rowList rd2 ys.length i.size)) e' (0, 0))) :=
                ⟨fun id' q' hq' => by
                  have hne : id' ≠ key := by rintro rfl; rw [rel.fresh hk] at hq'; cases hq'
                  show upd x.g key _ id' = _
                  rw [upd_other _ _ hne]; exact hq', fun _ _ h => h, fun _ _ h => h, (Ext.putBlk (w := w) hown.2 rel.okp _).cell⟩
              exact .arr _ _ _ _ b _ e' rfl (putBlk_same (lt_of_some g2) _) (by simp) (by simpa using hfit) (by rw [wr_size, g5]) (fun i' el hi' j c hc => (hrow i' el hi' j c hc).ext he) (fun hf => by cases hf)
            obtain ⟨he, hrel'⟩ := htk hbx'
            refine ⟨_, _, _, ?_, he, Fr.putBlk (rel.own id _ q b hbox rfl hq g1).1 _, hrel', .c _ _ (VRel.sref key ⟨some b, q.cap, xs.length + ys.length⟩ (upd_same _ _ _))⟩
            refine run_append_fits (base := some ⟨b, 0, none⟩) h0 h1 hu1 hu2 hT hfit (news := rowList rd2 ys.length i.size) (fun n hn => by subst hn; exact f1) ?_
            show (storeCells ((⟨b, 0, none⟩ : Addr).add (xs.length * i.size)) _).run P w = _
            rw [add_none, Nat.zero_add]
            rw [Nat.add_zero] at hst
            exact hst
          · obtain ⟨v, w', x', p1, p2, p3, p4, p5⟩ := append_grow (key := key) (ty := ty) h0 h1 hu1 hu2 hT (rel.drop id) hk hby hsz hrow1' hrow2 (by omega) hl
            exact ⟨v, w', x', p1, p2, p3, p4, p5⟩
    · cases H4
  · cases H4

theorem convertK_sound (hty : TyOK P cfg.ty) (rel : HRel M B O x h u w) (hsub : ∀ i b, hr i = some b → h i = some b) {s d : Nat} {a : IV} {A : Value} (ha : IVRel x w A a) (H : convertK cfg hr k s d a = some r) :
    ∃ out, k out = some r ∧ Step P M B O x h u w out (convert s d A) := by
  unfold convertK at H
  split at H
  · rename_i K hd
    split at H
    · rename_i K' n
      obtain ⟨ds, hds, H1⟩ := bindK_some H
      obtain ⟨rfl, _⟩ := iv_v ha
      obtain ⟨d1, hu1, hdr1⟩ := hty.und hd
      have e1 := hdr1.int; subst e1
      obtain ⟨d2, hu2, _⟩ := hty.und hds
      refine ⟨_, H1, Step.pure (v := .int K (K.wrap n)) rel ?_ (vrel_int _ _)⟩
      simp only [convert, Sem.run_bind, run_underlying hu1, run_underlying hu2, Result.andThen_ok]
      cases d2 <;> rfl
    · cases H
  · rename_i hd
    obtain ⟨d1, hu1, hdr1⟩ := hty.und hd
    have e1 := hdr1.str; subst e1
    split at H
    · rename_i hds
      split at H
      · obtain ⟨rfl, _⟩ := iv_v ha
        obtain ⟨d2, hu2, hdr2⟩ := hty.und hds
        have e2 := hdr2.str; subst e2
        refine ⟨_, H, Step.pure rel ?_ (vrel_str _)⟩
        simp only [convert, Sem.run_bind, run_underlying hu1, run_underlying hu2, Result.andThen_ok]
        rfl
      · cases H
    · rename_i e hds
      obtain ⟨hm, H1⟩ := need_some H
      obtain ⟨l, hl, H2⟩ := bindK_some H1
      clear H H1
      obtain ⟨d2, hu2, hdr2⟩ := hty.und hds
      have e2 := hdr2.sl; subst e2
      have hde : dOf cfg.ty e = some (.int .u8) := by
        split at hm
        · assumption
        · cases hm
      obtain ⟨d3, hu3, hdr3⟩ := hty.und hde
      have e3 := hdr3.int; subst e3
      obtain ⟨ad, cp, rd, rfl, hrow⟩ := elems_sound rel hsub ha hl
      refine ⟨_, H2, Step.pure (v := .string ⟨(l.map fun n => UInt8.ofNat n.toNat).toArray⟩) rel ?_ (vrel_str _)⟩
      simp only [convert, Sem.run_bind, run_underlying hu1, run_underlying hu2, run_underlying hu3, Result.andThen_ok]
      -- the bytes, one by one
      have hf := run_first (P := P) (w1 := w) (fun _ => rfl) hrow l.length cp
      have hrl : rowList rd l.length (width (.int .u8)) = l.map fun n => Value.int .u8 n := by
        apply List.ext_getElem?
        intro j
        by_cases hj : j < l.length
        · have := rowList_get rd hj (show 0 < width (.int .u8) from Nat.one_pos)
          have e9 : j * width (.int .u8) + 0 = j := by simp [width]
          rw [e9] at this
          rw [this]
          have hv := hrow.el j l[j] (List.getElem?_eq_getElem hj) 0 _ rfl
          simp only [List.getElem?_map, List.getElem?_eq_getElem hj, Option.map_some]
          generalize rd j 0 = V at hv
          cases hv; rfl
        · rw [List.getElem?_eq_none (by rw [rowList_length]; simp [width]; omega), List.getElem?_eq_none (by simp; omega)]
      rw [hrl] at hf
      have hw1 : width (.int .u8) = 1 := rfl
      rw [hw1] at hf
      have loop : ∀ (l : List Int) (s : ByteArray), (forIn (m := Sem) (l.map fun n => Value.int .u8 n) s fun c s => (match c with | .int .u8 n => pure (ForInStep.yield (s.push (UInt8.ofNat n.toNat))) | _ => do stuck (α := PUnit) "bytesToString: byte expected"; pure (ForInStep.yield s) : Sem (ForInStep ByteArray))).run P w =
          .ok ⟨s.data ++ (l.map fun n => UInt8.ofNat n.toNat).toArray⟩ w := by
        intro l
        induction l with
        | nil => intro s; simp
        | cons n l ih =>
          intro s
          simp only [List.map_cons, List.forIn_cons, Sem.run_bind, Sem.run_pure, Result.andThen_ok]
          rw [ih]
          congr 1
          cases s
          simp [ByteArray.push]
      cases ad with
      | none =>
        have h0 := hrow.nil rfl
        have h1 := hrow.cap
        have hl0 : l = [] := List.length_eq_zero_iff.1 (by omega)
        subst hl0
        rfl
      | some ad =>
        simp only [Conv.bytesToString, Sem.run_bind]
        simp only [Builtin.firstCells, Nat.mul_one] at hf
        rw [hf, Result.andThen_ok, ← Array.forIn_toList]
        have := loop l ByteArray.empty
        refine (congrArg (fun z : Result ByteArray => z.andThen fun a w' => (Pure.pure (Value.string a) : Sem Value).run P w') this).trans ?_
        simp
    · cases H
  · cases H

/-- What is written into one's own row. -/
theorem writeVK_sound (rel : HRel M B O x h u w) (hsub : ∀ i b, hr i = some b → h i = some b) {τ : Ty} {id lo : Nat} {ys : List (El τ)} {v : IV} {q : Gh} (hq : x.g id = some q) (hle : lo + ys.length ≤ q.cap) {news : List Value}
    (hnl : news.length = ys.length * width τ) (hone : ∀ z, z ∈ news → z.oneCell' = true) (hel : ∀ i el, ys[i]? = some el → ∀ (j : Nat) (c : IC), (enc τ el)[j]? = some c → VRel x w (news.getD (i * width τ + j) undef) c)
    (H : writeVK hr k τ id lo ys v = some r) : ∃ out, k out = some r ∧ out.v = v ∧ out.news = [] ∧
      ((q.blk = none ∧ ys = [] ∧ HRel M B O x (updMany h out.ups) u w) ∨ ∃ b w', q.blk = some b ∧ (∀ o, o = lo * width τ → (storeCells ⟨b, o, none⟩ news).run P w = .ok () w') ∧ Ext x w x w' ∧ Fr M B w w' ∧ HRel M B O x (updMany h out.ups) u w') := by
  have main : ∀ (ty : Nat) (xs : List (El τ)) (opn : Bool), OwnRow h id ty τ xs opn → lo ≤ xs.length → (opn = false → lo + ys.length ≤ xs.length) →
      k ⟨v, [(id, some (bif opn then .row ty τ (over xs lo ys) else .arr ty τ (over xs lo ys) false))], []⟩ = some r → ∃ out, k out = some r ∧ out.v = v ∧ out.news = [] ∧
      ((q.blk = none ∧ ys = [] ∧ HRel M B O x (updMany h out.ups) u w) ∨ ∃ b w', q.blk = some b ∧ (∀ o, o = lo * width τ → (storeCells ⟨b, o, none⟩ news).run P w = .ok () w') ∧ Ext x w x w' ∧ Fr M B w w' ∧ HRel M B O x (updMany h out.ups) u w') := by
    intro ty xs opn hb hlo hcl H
    obtain ⟨f1, f2, f3⟩ := hb.facts rel hq
    refine ⟨_, H, rfl, rfl, ?_⟩
    rcases f3 with ⟨g1, g2, g3⟩ | ⟨b, vs, e, g⟩
    · left
      subst g3
      have hy : ys = [] := List.length_eq_zero_iff.1 (by omega)
      subst hy
      have hl0 : lo = 0 := by simpa using hlo
      subst hl0
      refine ⟨g1, rfl, ?_⟩
      have e1 : over ([] : List (El τ)) 0 [] = [] := rfl
      have hu : updMany h [(id, some (bif opn then Box.row ty τ (over [] 0 []) else Box.arr ty τ (over [] 0 []) false))] = h := by
        funext i
        show upd h id _ i = h i
        by_cases hi : i = id
        · subst hi; rw [upd_same, e1]; exact hb.symm
        · rw [upd_other _ _ hi]
      exact Eq.mpr (congrArg (fun z => HRel M B O x z u w) hu) rel
    · right
      have hown := hb.own rel hq g.blk
      have hmul : lo * width τ + news.length ≤ vs.size := by
        rw [hnl, g.size, ← Nat.add_mul]; exact Nat.mul_le_mul_right _ hle
      have hst := run_storeCells (P := P) (k := b) (off := lo * width τ) (e := e) news 0 w vs hone g.obj (by omega)
      have he := Ext.putBlk (x := x) (w := w) hown.2 rel.okp (.cells (wr vs (lo * width τ) news) e (0, 0))
      have hrow : ∀ i el, (over xs lo ys)[i]? = some el → ∀ (j : Nat) (c : IC), (enc τ el)[j]? = some c → VRel x w ((wr vs (lo * width τ) news).getD (i * width τ + j) undef) c := by
        intro i el hi j c hc
        have hj : j < width τ := by
          have := enc_length τ el
          rcases Nat.lt_or_ge j (width τ) with h' | h'
          · exact h'
          · rw [List.getElem?_eq_none (by omega)] at hc; cases hc
        rw [over_get _ _ _ hlo] at hi
        rw [getD_ext, wr_get _ _ _ _ (by omega)]
        by_cases h1 : i < lo
        · rw [if_pos h1] at hi
          have : i * width τ + j < lo * width τ := by
            have : (i + 1) * width τ ≤ lo * width τ := Nat.mul_le_mul_right _ (by omega)
            rw [Nat.add_mul] at this; omega
          rw [if_pos this, ← getD_ext]
          exact g.el i el hi j c hc
        · rw [if_neg h1] at hi
          have hlo' : lo * width τ ≤ i * width τ := Nat.mul_le_mul_right _ (by omega)
          rw [if_neg (by omega)]
          by_cases h2 : i < lo + ys.length
          · rw [if_pos h2] at hi
            have h3 : i * width τ + j < lo * width τ + news.length := by
              rw [hnl, ← Nat.add_mul]
              have : (i + 1) * width τ ≤ (lo + ys.length) * width τ := Nat.mul_le_mul_right _ (by omega)
              rw [Nat.add_mul] at this; omega
            rw [if_pos h3]
            have h4 : i * width τ + j - lo * width τ = (i - lo) * width τ + j := by rw [Nat.sub_mul]; omega
            rw [h4]
            have := hel (i - lo) el hi j c hc
            simpa [List.getD] using this
          · rw [if_neg h2] at hi
            have h3 : ¬ i * width τ + j < lo * width τ + news.length := by
              rw [hnl, ← Nat.add_mul]
              have : (lo + ys.length) * width τ ≤ i * width τ := Nat.mul_le_mul_right _ (by omega)
              omega
            rw [if_neg h3, ← getD_ext]
            exact g.el i el hi j c hc
      have hcap : (over xs lo ys).length ≤ q.cap := by rw [over_length _ _ _ hlo]; omega
      refine ⟨b, _, g.blk, fun o ho => by subst ho; exact hst, by simpa using he, Fr.putBlk hown.1 _, ?_⟩
      have hh : (bif opn then Box.row ty τ xs else Box.arr ty τ xs false).hot = true := by cases opn <;> rfl
      refine rel.putO hb hh hq g.blk (.cells (wr vs (lo * width τ) news) e (0, 0)) (bif opn then .row ty τ (over xs lo ys) else .arr ty τ (over xs lo ys) false) ?_
      cases opn with
      | true => exact .row _ _ _ b _ e g.blk (putBlk_same (lt_of_some g.obj) _) hcap (by rw [wr_size, g.size]) fun i el hi j c hc => (hrow i el hi j c hc).ext he
      | false =>
        have hlen : (over xs lo ys).length = xs.length := by rw [over_length _ _ _ hlo]; have := hcl rfl; omega
        exact .arr _ _ _ _ b _ e g.blk (putBlk_same (lt_of_some g.obj) _) (by rw [hlen]; exact f2 rfl) hcap (by rw [wr_size, g.size]) (fun i el hi j c hc => (hrow i el hi j c hc).ext he) fun h => by cases h
  unfold writeVK at H
  split at H
  · rename_i ty' τ' xs' hbx
    obtain ⟨xs, hxs, H1⟩ := bindK_some H
    obtain ⟨hl, H2⟩ := test_some H1
    have hl := of_decide_eq_true hl
    exact main ty' xs false (asTy_own hsub (opn := false) hbx hxs) (by omega) (fun _ => hl) H2
  · rename_i ty' τ' xs' hbx
    obtain ⟨xs, hxs, H1⟩ := bindK_some H
    obtain ⟨hl, H2⟩ := test_some H1
    have hl := of_decide_eq_true hl
    exact main ty' xs true (asTy_own hsub (opn := true) hbx hxs) hl (fun h => by cases h) H2
  · cases H

/-- What a slice's elements are, written out cell by cell. -/
theorem rowList_one {t : Ty} {ys : List (El t)} {a : Option Addr} {c : Nat} {rd : Nat → Nat → Value} (hrow : SlRow x w t ys a c rd) : (∀ v, v ∈ rowList rd ys.length (width t) → v.oneCell' = true) ∧
    ∀ i el, ys[i]? = some el → ∀ (j : Nat) (c : IC), (enc t el)[j]? = some c → VRel x w ((rowList rd ys.length (width t)).getD (i * width t + j) undef) c := by
  refine ⟨fun v hv => ?_, fun i el hi j c hc => ?_⟩
  · obtain ⟨m, hm⟩ := List.mem_iff_getElem?.1 hv
    have hmlt : m < ys.length * width t := by
      rcases Nat.lt_or_ge m (ys.length * width t) with h' | h'
      · exact h'
      · rw [List.getElem?_eq_none (by rw [rowList_length]; omega)] at hm; cases hm
    have hp := width_pos t
    have p1 : m / width t < ys.length := Nat.div_lt_of_lt_mul (by rw [Nat.mul_comm]; exact hmlt)
    have p2 : m % width t < width t := Nat.mod_lt _ hp
    have p3 : m / width t * width t + m % width t = m := by rw [Nat.mul_comm]; exact Nat.div_add_mod m (width t)
    have p4 := rowList_get rd p1 p2
    rw [p3, hm] at p4; injection p4 with p4; subst p4
    have p5 : m % width t < (enc t (rdEl t ys (m / width t))).length := by rw [enc_length]; exact p2
    have p6 := hrow.el _ _ (rdEl_get p1) _ _ (List.getElem?_eq_getElem p5)
    exact p6.one (enc_nojunk _ _ _ (List.getElem_mem p5))
  · have hi' : i < ys.length := by
      rcases Nat.lt_or_ge i ys.length with h' | h'
      · exact h'
      · rw [List.getElem?_eq_none h'] at hi; cases hi
    have hj : j < width t := by
      have := enc_length t el
      rcases Nat.lt_or_ge j (width t) with h' | h'
      · exact h'
      · rw [List.getElem?_eq_none (by omega)] at hc; cases hc
    have := hrow.el i el hi j c hc
    simpa [List.getD, rowList_get rd hi' hj] using this

/-! ### the operations -/

theorem viewK_sound (rel : HRel M B O x h u w) (hsub : ∀ i b, hr i = some b → h i = some b) {t : Ty} {a : IV} {A : Value} {kk : Nat → Nat → Nat → Option Nat → Nat → R} (ha : IVRel x w A a) (H : viewK hr t a kk = some r) :
    ∃ id lo n c top q o, kk id lo n c top = some r ∧ x.g id = some q ∧ A = .slice (q.blk.map fun b => ⟨b, o, none⟩) n (q.cap - lo) ∧ lo + n ≤ q.cap ∧ (lo < q.cap ∨ lo = 0 → o = lo * width t) ∧ (∀ z, c = some z → q.cap = z) ∧ n ≤ q.cap - lo ∧ top ≤ q.cap - lo := by
  unfold viewK at H
  split at H
  · rename_i id
    split at H
    · rename_i ty t' xs hbx
      obtain ⟨e, H1⟩ := need_some H
      subst e
      cases iv_c ha with
      | sref _ q hq =>
        obtain ⟨f1, f2, _⟩ := OwnRow.facts rel (opn := false) (hsub _ _ hbx) hq
        have hl := f2 rfl
        exact ⟨id, 0, xs.length, none, xs.length, q, 0, H1, hq, by rw [hl]; rfl, by omega, fun _ => by simp, fun z hz => (by cases hz), by omega, by omega⟩
    · cases H
  · rename_i id wd lo n c
    have main : ∀ (ty : Nat) (t' : Ty) (xs : List (El t')) (opn : Bool), hr id = some (bif opn then .row ty t' xs else .arr ty t' xs false) → (t' = t ∧ wd = width t) → kk id lo n c (match (generalizing := false) c with | some z => z - lo | none => xs.length - lo) = some r → ∃ id lo n c top q o, kk id lo n c top = some r ∧ x.g id = some q ∧ A = .slice (q.blk.map fun b => ⟨b, o, none⟩) n (q.cap - lo) ∧ lo + n ≤ q.cap ∧ (lo < q.cap ∨ lo = 0 → o = lo * width t) ∧ (∀ z, c = some z → q.cap = z) ∧ n ≤ q.cap - lo ∧ top ≤ q.cap - lo := by
      rintro ty t' xs opn hbx ⟨_, e⟩ H1
      subst e
      cases iv_c ha with
      | view _ _ _ _ _ q o hg hle ho hc =>
        refine ⟨id, lo, n, c, _, q, o, H1, hg, rfl, hle, ho, hc, by omega, ?_⟩
        obtain ⟨f1, _, _⟩ := OwnRow.facts rel (hsub _ _ hbx) hg
        cases c with
        | none => simp only; omega
        | some z => have := hc z rfl; simp only; omega
    split at H
    · rename_i ty t' xs hbx
      obtain ⟨e, H1⟩ := need_some H
      exact main ty t' xs false hbx e H1
    · rename_i ty t' xs hbx
      obtain ⟨e, H1⟩ := need_some H
      exact main ty t' xs true hbx e H1
    · cases H
  · cases H

theorem bounds_run2 {hv lv : Option IV} {hA lA : Option Value} {isS : Bool} {len top cap : Nat} {f : Nat → Nat → R} (hh : ∀ y, hv = some y → ∃ A, hA = some A ∧ IVRel x w A y) (hh0 : hv = none → hA = none)
    (hl : ∀ y, lv = some y → ∃ A, lA = some A ∧ IVRel x w A y) (hl0 : lv = none → lA = none) (hcap : len ≤ cap) (htop : top ≤ cap)
    (H : boundK hv top len (fun hN => boundK lv hN 0 fun lN => f hN lN) = some r) :
    ∃ hN lN, lN ≤ hN ∧ hN ≤ cap ∧ f hN lN = some r ∧ (Instr.sliceBounds isS len cap lA hA none).run P w = .ok (lN, hN, cap) w := by
  have low : ∀ hN, boundK lv hN 0 (fun lN => f hN lN) = some r → ∃ lN, lN ≤ hN ∧ f hN lN = some r ∧
      ((lA = none ∧ lN = 0) ∨ ∃ K n, lA = some (.int K n) ∧ 0 ≤ n ∧ n ≤ (hN : Int) ∧ lN = n.toNat) := by
    intro hN H
    rcases boundK_some H with ⟨h1, h2⟩ | ⟨K, n, h1, h2, h3, h4⟩
    · exact ⟨0, Nat.zero_le _, h2, .inl ⟨hl0 h1, rfl⟩⟩
    · obtain ⟨A, hA', hr⟩ := hl _ h1
      obtain ⟨rfl, _⟩ := iv_v hr
      exact ⟨n.toNat, by omega, h4, .inr ⟨K, n, hA', h2, h3, rfl⟩⟩
  have fin : ∀ hN, hN ≤ cap → boundK lv hN 0 (fun lN => f hN lN) = some r →
      ((hA = none ∧ hN = len) ∨ ∃ K n, hA = some (.int K n) ∧ 0 ≤ n ∧ n ≤ (cap : Int) ∧ hN = n.toNat) →
      ∃ hN lN, lN ≤ hN ∧ hN ≤ cap ∧ f hN lN = some r ∧ (Instr.sliceBounds isS len cap lA hA none).run P w = .ok (lN, hN, cap) w := by
    intro hN hle H hc
    obtain ⟨lN, h1, h2, h3⟩ := low hN H
    refine ⟨hN, lN, h1, hle, h2, ?_⟩
    have lo1 : ∀ (K : IntKind) (n : Int) (c : BoundsCode), 0 ≤ n → n ≤ (hN : Int) → (Instr.sliceBound (.int K n) hN c).run P w = .ok n.toNat w := by
      intro K n c p1 p2
      have : 0 ≤ n ∧ n ≤ (hN : Int) := ⟨p1, p2⟩
      simp [Instr.sliceBound, asIntOf, this]
    have hi1 : ∀ (K : IntKind) (n : Int) (c : BoundsCode), 0 ≤ n → n ≤ (cap : Int) → (Instr.sliceBound (.int K n) cap c).run P w = .ok n.toNat w := by
      intro K n c p1 p2
      have : 0 ≤ n ∧ n ≤ (cap : Int) := ⟨p1, p2⟩
      simp [Instr.sliceBound, asIntOf, this]
    rcases hc with ⟨e1, e2⟩ | ⟨K, n, e1, p1, p2, e2⟩ <;> rcases h3 with ⟨e3, e4⟩ | ⟨K', n', e3, p3, p4, e4⟩
    · rw [e1, e3, e2, e4]; rfl
    · rw [e1, e3]
      simp only [Instr.sliceBounds, Sem.run_bind, Sem.run_pure, Result.andThen_ok]
      rw [← e2, lo1 _ _ _ p3 p4, e4]; rfl
    · rw [e1, e3]
      simp only [Instr.sliceBounds, Sem.run_bind, Sem.run_pure, Result.andThen_ok]
      rw [hi1 _ _ _ p1 p2, e2, e4]; rfl
    · rw [e1, e3]
      simp only [Instr.sliceBounds, Sem.run_bind, Sem.run_pure, Result.andThen_ok]
      rw [hi1 _ _ _ p1 p2, Result.andThen_ok, ← e2, lo1 _ _ _ p3 p4, e4]; rfl
  rcases boundK_some H with ⟨h1, h2⟩ | ⟨K, n, h1, h2, h3, h4⟩
  · exact fin len hcap h2 (.inl ⟨hh0 h1, rfl⟩)
  · obtain ⟨A, hA', hr⟩ := hh _ h1
    obtain ⟨rfl, _⟩ := iv_v hr
    exact fin n.toNat (by omega) h4 (.inr ⟨K, n, hA', h2, by omega, rfl⟩)

theorem sliceVK_sound (hty : TyOK P cfg.ty) (rel : HRel M B O x h u w) (hsub : ∀ i b, hr i = some b → h i = some b) {t : Nat} {lo hi : Option Operand} {ρ : Operand → Value} {a : IV} {A : Value} (ha : IVRel x w A a)
    {rs : List IV} (hl : rs.length = (lo.toList ++ hi.toList).length) (hrs : ∀ j y, rs[j]? = some y → IVRel x w (((lo.toList ++ hi.toList).map ρ).getD j undef) y)
    (H : sliceVK cfg hr k t lo.isSome hi.isSome a rs = some r) : ∃ out, k out = some r ∧ Step P M B O x h u w out (Instr.sliceAt t A (lo.map ρ) (hi.map ρ) none) := by
  unfold sliceVK at H
  obtain ⟨bd, hbd, H1⟩ := bindK_some H
  clear H
  have hb : (∀ y, bd.2 = some y → ∃ A, hi.map ρ = some A ∧ IVRel x w A y) ∧ (bd.2 = none → hi.map ρ = none) ∧ (∀ y, bd.1 = some y → ∃ A, lo.map ρ = some A ∧ IVRel x w A y) ∧ (bd.1 = none → lo.map ρ = none) := by
    unfold lowOf at hbd
    cases lo with
    | none =>
      cases hi with
      | none =>
        match rs, hl with
        | [], _ => simp at hbd; subst hbd; simp
      | some hi =>
        match rs, hl with
        | [y], _ =>
          simp at hbd; subst hbd
          have := hrs 0 y rfl
          simpa using this
    | some lo =>
      cases hi with
      | none =>
        match rs, hl with
        | [y], _ =>
          simp at hbd; subst hbd
          have := hrs 0 y rfl
          simpa using this
      | some hi =>
        match rs, hl with
        | [y, z], _ =>
          simp at hbd; subst hbd
          have h0 := hrs 0 y rfl
          have h1 := hrs 1 z rfl
          simp at h0 h1
          simp [h0, h1]
  obtain ⟨b1, b2, b3, b4⟩ := hb
  split at H1
  · rename_i e hd
    obtain ⟨i, hi', H2⟩ := bindK_some H1
    obtain ⟨τ, hτ, H3⟩ := bindK_some H2
    obtain ⟨hsz, H4⟩ := need_some H3
    clear H1 H2 H3
    obtain ⟨d, hu, h2⟩ := hty.und hd
    have hds := h2.sl; subst hds
    have hT := hty _ _ hi'
    obtain ⟨id, l, n, c, top, q, o, H5, hq, rfl, g1, g2, g3, g4, g5⟩ := viewK_sound rel hsub ha H4
    obtain ⟨hN, lN, e1, e2, e3, e4⟩ := bounds_run2 (P := P) (isS := true) (f := fun hN lN => k ⟨.c (.view id (width τ) (l + lN) (hN - lN) c), [], []⟩) b1 b2 b3 b4 g4 g5 H5
    refine ⟨_, e3, Step.pure (v := .slice (if q.cap - l = lN then (q.blk.map fun b => (⟨b, o, none⟩ : Addr)) else (q.blk.map fun b => (⟨b, o, none⟩ : Addr)).map (·.add (lN * i.size))) (hN - lN) (q.cap - l - lN)) rel ?_ (.c _ _ ?_)⟩
    · simp only [Instr.sliceAt, Sem.run_bind, run_underlying hu, Result.andThen_ok, Instr.slice, e4, hT.runSize, Sem.run_pure]
    · have hv : VRel x w (.slice (q.blk.map fun b => ⟨b, if q.cap - l = lN then o else o + lN * i.size, none⟩) (hN - lN) (q.cap - (l + lN))) (.view id (width τ) (l + lN) (hN - lN) c) := by
        refine .view id (width τ) (l + lN) (hN - lN) c q _ hq (by omega) (fun hlt => ?_) g3
        by_cases hc : q.cap - l = lN
        · rw [if_pos hc]
          rcases hlt with hlt | hlt
          · omega
          · have h1 : l = 0 := by omega
            have h2 : lN = 0 := by omega
            rw [h1, h2]
            have := g2 (.inr h1)
            rw [this, h1]
        · rw [if_neg hc, g2 (.inl (by omega)), hsz, Nat.add_mul]
      have e5 : q.cap - (l + lN) = q.cap - l - lN := by omega
      rw [e5] at hv
      cases hq' : q.blk with
      | none => rw [hq'] at hv; simpa using hv
      | some b =>
        rw [hq'] at hv
        by_cases hc : q.cap - l = lN
        · rw [if_pos hc] at hv ⊢; exact hv
        · rw [if_neg hc] at hv ⊢
          simp only [Option.map_some, add_none] at hv ⊢
          exact hv
  · cases H1

theorem slice3K_sound (hty : TyOK P cfg.ty) (rel : HRel M B O x h u w) (hsub : ∀ i b, hr i = some b → h i = some b) {t : Nat} {L Z Mx : Value} {a : IV} {A : Value} (ha : IVRel x w A a)
    {rs : List IV} (hl : rs.length = 3) (hrs : ∀ j y, rs[j]? = some y → IVRel x w ([L, Z, Mx].getD j undef) y)
    (H : slice3K cfg hr k t a rs = some r) : ∃ out, k out = some r ∧ Step P M B O x h u w out (Instr.sliceAt t A (some L) (some Z) (some Mx)) := by
  unfold slice3K at H
  split at H
  · rename_i e K1 l K2 z K3 m hd
    obtain ⟨i, hi', H2⟩ := bindK_some H
    obtain ⟨τ, hτ, H3⟩ := bindK_some H2
    obtain ⟨hsz, H4⟩ := need_some H3
    obtain ⟨d, hu, h2⟩ := hty.und hd
    have hds := h2.sl; subst hds
    have hT := hty _ _ hi'
    obtain ⟨id, lo, n, c, top, q, o, H5, hq, rfl, g1, g2, g3, g4, g5⟩ := viewK_sound rel hsub ha H4
    obtain ⟨t1, H5⟩ := test_some H5
    obtain ⟨t2, H5⟩ := test_some H5
    obtain ⟨t3, H5⟩ := test_some H5
    obtain ⟨t4, H5⟩ := test_some H5
    obtain ⟨t5, H5⟩ := test_some H5
    obtain ⟨t6, H5⟩ := test_some H5
    have t1 := of_decide_eq_true t1
    have t2 := of_decide_eq_true t2
    have t3 := of_decide_eq_true t3
    have t4 := of_decide_eq_true t4
    have t5 := of_decide_eq_true t5
    have t6 := of_decide_eq_true t6
    obtain ⟨r0, _⟩ := iv_v (hrs 0 _ rfl)
    obtain ⟨r1, _⟩ := iv_v (hrs 1 _ rfl)
    obtain ⟨r2, _⟩ := iv_v (hrs 2 _ rfl)
    simp at r0 r1 r2
    subst r0; subst r1; subst r2
    have q1 : 0 ≤ m ∧ m ≤ ((q.cap - lo : Nat) : Int) := ⟨t1, by omega⟩
    have q2 : 0 ≤ z ∧ z ≤ ((m.toNat : Nat) : Int) := ⟨t3, by omega⟩
    have q3 : 0 ≤ l ∧ l ≤ ((z.toNat : Nat) : Int) := ⟨t5, by omega⟩
    refine ⟨_, H5, Step.pure (v := .slice (if m.toNat = l.toNat then (q.blk.map fun b => (⟨b, o, none⟩ : Addr)) else (q.blk.map fun b => (⟨b, o, none⟩ : Addr)).map (·.add (l.toNat * i.size))) (z.toNat - l.toNat) (m.toNat - l.toNat)) rel ?_ (.c _ _ (.junk _))⟩
    have s1 : (Instr.sliceBounds true n (q.cap - lo) (some (.int K1 l)) (some (.int K2 z)) (some (.int K3 m))).run P w = .ok (l.toNat, z.toNat, m.toNat) w := by
      have b1 : (Instr.sliceBound (.int K3 m) (q.cap - lo) .slice3Acap).run P w = .ok m.toNat w := by simp [Instr.sliceBound, asIntOf, q1]
      have b2 : (Instr.sliceBound (.int K2 z) m.toNat .slice3B).run P w = .ok z.toNat w := by
        have : 0 ≤ z ∧ z ≤ max m 0 := ⟨t3, by omega⟩
        simp [Instr.sliceBound, asIntOf, this]
      have b3 : (Instr.sliceBound (.int K1 l) z.toNat .slice3C).run P w = .ok l.toNat w := by
        have : 0 ≤ l ∧ l ≤ max z 0 := ⟨t5, by omega⟩
        simp [Instr.sliceBound, asIntOf, this]
      simp only [Instr.sliceBounds, Sem.run_bind, Sem.run_pure, if_true, Option.isSome_some]
      rw [b1, Result.andThen_ok, b2, Result.andThen_ok, b3]; rfl
    simp only [Instr.sliceAt, Sem.run_bind, run_underlying hu, Result.andThen_ok, Instr.slice, s1, hT.runSize, Sem.run_pure]
  · cases H

theorem rowK_some {τ : Ty} {id : Nat} {kk : List (El τ) → R} (hsub : ∀ i b, hr i = some b → h i = some b) (H : rowK hr τ id kk = some r) : ∃ ty xs opn, OwnRow h id ty τ xs opn ∧ kk xs = some r := by
  unfold rowK at H
  split at H
  · rename_i ty τ' xs' hbx
    obtain ⟨xs, hxs, H1⟩ := bindK_some H
    exact ⟨ty, xs, false, asTy_own hsub (opn := false) hbx hxs, H1⟩
  · rename_i ty τ' xs' hbx
    obtain ⟨xs, hxs, H1⟩ := bindK_some H
    exact ⟨ty, xs, true, asTy_own hsub (opn := true) hbx hxs, H1⟩
  · cases H

theorem appendVK_sound (hty : TyOK P cfg.ty) (rel : HRel M B O x h u w) (hsub : ∀ i b, hr i = some b → h i = some b) {t u' ty : Nat} {ts : Array Nat} (h0 : ts[0]? = some t) (h1 : ts[1]? = some u') {a y : IV} {A Y : Value}
    (ha : IVRel x w A a) (hy : IVRel x w Y y) (H : appendVK cfg key hr k t u' a y = some r) :
    ∃ out, k out = some r ∧ ((∀ i, i ∈ out.news → u i = false) → Step P M B O x h u w out (Builtin.append_ ts ty #[A, Y])) := by
  unfold appendVK at H
  split at H
  case h_2 => cases H
  rename_i e e2 id wd lo n c hd1 hd2
  obtain ⟨i, hi, H1⟩ := bindK_some H
  obtain ⟨τ, hτ, H2⟩ := bindK_some H1
  obtain ⟨ys, ad, cy, rd2, H3, rfl, hrow2⟩ := elemsK_sound rel hsub hy H2
  obtain ⟨⟨hby, hsz, hwd⟩, H4⟩ := need_some H3
  clear H H1 H2 H3
  subst hwd
  obtain ⟨d1, hu1, hdr1⟩ := hty.und hd1
  have hds1 := hdr1.sl; subst hds1
  obtain ⟨d2, hu2, hdr2⟩ := hty.und hd2
  have hds2 := hdr2.sl; subst hds2
  have hT := hty _ _ hi
  obtain ⟨ty', xs, opn, hb, H5⟩ := rowK_some hsub H4
  cases iv_c ha with
  | view _ _ _ _ _ q o hg hle ho hc =>
    obtain ⟨f1, f2, f3⟩ := hb.facts rel hg
    obtain ⟨r1, r2⟩ := rowList_one hrow2
    have fits : ∀ {v : IV}, lo + n + ys.length ≤ q.cap → v = .c (.view id (width τ) lo (n + ys.length) c) → writeVK hr k τ id (lo + n) ys v = some r →
        ∃ out, k out = some r ∧ ((∀ i, i ∈ out.news → u i = false) → Step P M B O x h u w out (Builtin.append_ ts ty #[.slice (q.blk.map fun b => ⟨b, o, none⟩) n (q.cap - lo), .slice ad ys.length cy])) := by
      intro v hfit hv H6
      subst hv
      obtain ⟨out, g1, g2, g3, g4⟩ := writeVK_sound (P := P) rel hsub hg hfit (by rw [rowList_length]) r1 r2 H6
      refine ⟨out, g1, fun _ => ?_⟩
      have fi := run_first (P := P) (w1 := w) (fun _ => rfl) hrow2 ys.length cy
      rw [← hsz] at fi
      have hres : ∀ w', Ext x w x w' → IVRel x w' (.slice (q.blk.map fun b => ⟨b, o, none⟩) (n + ys.length) (q.cap - lo)) out.v := fun w' he => by
        rw [g2]
        exact .c _ _ (.view id (width τ) lo (n + ys.length) c q o hg (by omega) ho hc)
      rcases g4 with ⟨p1, p2, p3⟩ | ⟨b, w', p1, p2, p3, p4, p5⟩
      · subst p2
        refine ⟨_, w, x, ?_, Ext.refl _ _, Fr.refl _ _ _, (by rw [g3]; exact p3), hres w (Ext.refl _ _)⟩
        rw [p1]
        exact run_append_fits (base := none) h0 h1 hu1 hu2 hT (by simp only [List.length_nil] at hfit ⊢; omega) (news := rowList rd2 ([] : List (El τ)).length i.size) (fun m hm => by subst hm; exact fi) rfl
      · refine ⟨_, w', x, ?_, p3, p4, (by rw [g3]; exact p5), hres w' p3⟩
        rw [p1]
        by_cases hys : ys.length = 0
        · -- nothing is written
          have hnil : rowList rd2 ys.length (width τ) = [] := by rw [hys]; simp [rowList]
          have h2 := p2 _ rfl
          rw [hnil] at h2
          have : w' = w := by
            simp only [storeCells] at h2
            injection h2 with _ h2; exact h2.symm
          subst this
          refine run_append_fits (base := some ⟨b, o, none⟩) h0 h1 hu1 hu2 hT (by omega) (news := rowList rd2 ys.length i.size) (fun m hm => by subst hm; exact fi) ?_
          show (storeCells _ _).run P _ = _
          rw [hsz, hnil]; rfl
        · have ho' := ho (.inl (by omega))
          refine run_append_fits (base := some ⟨b, o, none⟩) h0 h1 hu1 hu2 hT (by omega) (news := rowList rd2 ys.length i.size) (fun m hm => by subst hm; exact fi) ?_
          show (storeCells ((⟨b, o, none⟩ : Addr).add (n * i.size)) _).run P w = _
          rw [add_none, ho', hsz, ← Nat.add_mul]
          exact p2 _ rfl
    cases c with
    | none =>
      obtain ⟨hl, H6⟩ := test_some H5
      have hl := of_decide_eq_true hl
      exact fits (by omega) rfl H6
    | some z =>
      have hz := hc z rfl
      simp only at H5
      cases hcd : decide (lo + n + ys.length ≤ z) with
      | true =>
        rw [hcd] at H5
        exact fits (by have := of_decide_eq_true hcd; omega) rfl H5
      | false =>
        rw [hcd] at H5
        simp only [cond_false] at H5
        have hnf := of_decide_eq_false hcd
        obtain ⟨hl, H6⟩ := test_some H5
        obtain ⟨hl2, H7⟩ := test_some H6
        have hl := of_decide_eq_true hl
        have hl2 := of_decide_eq_true hl2
        refine ⟨_, H7, fun hf => ?_⟩
        have hk : u key = false := hf key (by simp)
        obtain ⟨rd1, hrow1⟩ := hb.slice rel hg hl ho
        have hlen : ((xs.drop lo).take n).length = n := by simp; omega
        have := append_grow (key := key) (ty := ty) (B := B) (M := M) (O := O) h0 h1 hu1 hu2 hT rel hk hby hsz hrow1 hrow2 (by rw [hlen]; omega) (by rw [hlen]; exact hl2)
        rw [hlen] at this
        exact this

theorem zeros_row {zc : Array Value} {n wd : Nat} (h : zc.size = wd) (hp : 0 < wd) : Builtin.zeroCells zc n = (rowList (fun _ j => zc.getD j undef) n wd).toArray := by
  apply Array.ext'
  rw [Builtin.zeroCells, Array.toList_map, rowList, h]
  simp only [Array.toList_range]
  refine List.map_congr_left fun m _ => ?_
  have hlt : m % wd < zc.size := by rw [h]; exact Nat.mod_lt _ hp
  simp [Array.getD, hlt]

theorem append_grow_zeros {t u' e ty : TypeId} {kn kq : IntKind} {i : TI} {τ : Ty} {zz : El τ} (ht : P.underlying t = some (.slice e)) (hu : P.underlying u' = some (.int kn)) (hT : TOK P e i) (hzz : dec1 τ i.zero = some zz)
    (rel : HRel M B O x h u w) (hk : u key = false) (hby : 0 < i.bytes) (hsz : i.size = width τ) {xs : List (El τ)} {base : Option Addr} {sCap l : Nat} {rd1 : Nat → Nat → Value}
    (hx : SlRow x w τ xs base sCap rd1) (hl0 : 0 < l) (hfit : sCap < xs.length + l) (hlim : xs.length + l ≤ lim i.bytes) :
    ∃ v w' x', (Builtin.append_ #[t, u'] ty #[.slice base xs.length sCap, .int kq l]).run P w = .ok v w' ∧ Ext x w x' w' ∧ Fr M B w w' ∧
      HRel M B O x' (upd h key (some (.arr e τ (xs ++ List.replicate l zz) false))) (upd u key true) w' ∧ IVRel x' w' v (.c (.sref key)) := by
  have hd : ∀ ad, w.drew.cell? ad = w.cell? ad := fun _ => rfl
  have f2 := run_first (P := P) hd hx xs.length sCap
  obtain ⟨ti, zv, q1, q2, q3, q4, q5, q6, q7⟩ := hT.info
  obtain ⟨d1, d2⟩ := dec1_get hzz
  have hp := width_pos τ
  have hm := lim_mul hlim
  have hg := growslice_fits hfit hm
  have hlm := @lim_le i.bytes
  rw [← hsz, ← q2] at f2
  have hrun := Lib.run_append_grow_zeros (P := P) w t u' ty e ti zv kq kn ht hu q1 q4 base xs.length sCap _ f2 l hl0 (by rw [q2, hsz]; exact hp) hfit (by omega) (by rw [q3]; have := Nat.mul_le_mul_right i.bytes (show l ≤ xs.length + l by omega); omega) (by rw [q3]; omega)
  have hge := grownCap_le w (xs.length + l) sCap e
  generalize grownCap w (xs.length + l) sCap e = gc at hrun hge
  have hzs : zv.cells.size = width τ := by rw [q5, hsz]
  rw [zeros_row (n := l) hzs hp, q2, hsz] at hrun
  have hrel1 := rel.drew
  let rd2 : Nat → Nat → Value := fun _ j => zv.cells.getD j undef
  let vs : Array Value := (rowList rd1 xs.length (width τ)).toArray ++ (rowList rd2 l (width τ)).toArray ++ Builtin.zeroCells zv.cells (gc - (xs.length + l))
  have hvs : vs.size = gc * width τ := by
    simp only [vs, Array.size_append, List.size_toArray, rowList_length, zeroCells_size, hzs]
    rw [← Nat.add_mul, ← Nat.add_mul]
    congr 1; omega
  have he2 := Ext.alloc hrel1 hk ⟨some w.drew.heap.size, gc, xs.length + l⟩ (.cells vs e)
  have he := (Ext.drew x w).trans he2
  have hz : ∀ i' e', (List.replicate l zz)[i']? = some e' → ∀ (j : Nat) (c : IC), (enc τ e')[j]? = some c → VRel x w (rd2 i' j) c := fun i' e' hi' j c hcc => by
    rw [List.getElem?_replicate] at hi'
    split at hi'
    · injection hi' with hi'
      subst hi'
      have hj : j < width τ := by
        have := enc_length τ zz
        rcases Nat.lt_or_ge j (width τ) with h' | h'
        · exact h'
        · rw [List.getElem?_eq_none (by omega)] at hcc; cases hcc
      obtain ⟨c0, hc0, ht⟩ := d2 j c hcc
      refine ht _ _ _ ?_
      rw [q6, List.getElem?_map] at hc0
      have hj' : j < zv.cells.size := by omega
      have : zv.cells.toList[j]? = some (zv.cells.getD j undef) := by simp [Array.getD, hj']
      rw [this] at hc0
      injection hc0 with hc0
      rw [← hc0]
      exact .v _ (q7 _ (List.mem_of_getElem? this))
    · cases hi'
  have hrow : ∀ i' e', (xs ++ List.replicate l zz)[i']? = some e' → ∀ (j : Nat) (c : IC), (enc τ e')[j]? = some c → VRel x w (vs.getD (i' * width τ + j) undef) c := by
    refine row_get (rd1 := rd1) (rd2 := rd2) (fun m hm => ?_) (fun m hm => ?_) hx.el hz
    · simp only [vs]
      rw [Array.append_assoc, Array.getElem?_append_left (by simp [rowList_length]; omega)]
      simp
    · rw [List.length_replicate] at hm ⊢
      simp only [vs]
      rw [Array.append_assoc, Array.getElem?_append_right (by simp [rowList_length])]
      simp only [List.size_toArray, rowList_length, Nat.add_sub_cancel_left]
      rw [Array.getElem?_append_left (by simp [rowList_length]; omega)]
      simp
  refine ⟨_, _, x.new key ⟨some w.drew.heap.size, gc, xs.length + l⟩, hrun, he, (Fr.drew M B w).trans (Fr.alloc w.drew (show B ≤ w.drew.heap.size from rel.big) _), ?_, ?_⟩
  · refine hrel1.alloc hk vs e gc (xs.length + l) _ (.arr _ _ _ _ w.drew.heap.size vs e rfl (heap_alloc_new _ _) (by simp) (by simpa using hge) hvs (fun i' e' hi' j c hc => (hrow i' e' hi' j c hc).ext he) (fun hf => by cases hf))
  · exact .c _ _ (VRel.sref key ⟨some w.drew.heap.size, gc, xs.length + l⟩ (upd_same _ _ _))

theorem appendZK_sound (hty : TyOK P cfg.ty) (rel : HRel M B O x h u w) (hsub : ∀ i b, hr i = some b → h i = some b) {t u' ty : Nat} {ts : Array Nat} (h0 : ts[0]? = some t) (h1 : ts[1]? = some u') {a y : IV} {A Y : Value}
    (ha : IVRel x w A a) (hy : IVRel x w Y y) (H : appendZK cfg key hr k t u' a y = some r) :
    ∃ out, k out = some r ∧ ((∀ i, i ∈ out.news → u i = false) → Step P M B O x h u w out (Builtin.append_ ts ty #[A, Y])) := by
  unfold appendZK at H
  split at H
  case h_2 => cases H
  rename_i e kn id wd lo n z kq l hd1 hd2
  obtain ⟨i, hi, H1⟩ := bindK_some H
  obtain ⟨τ, hτ, H2⟩ := bindK_some H1
  obtain ⟨zz, hzz, H3⟩ := bindK_some H2
  obtain ⟨⟨hby, hsz, hwd⟩, H4⟩ := need_some H3
  clear H H1 H2 H3
  subst hwd
  obtain ⟨d1, hu1, hdr1⟩ := hty.und hd1
  have hds1 := hdr1.sl; subst hds1
  obtain ⟨d2, hu2, hdr2⟩ := hty.und hd2
  have hT := hty _ _ hi
  obtain ⟨ty', xs, opn, hb, H5⟩ := rowK_some hsub H4
  obtain ⟨hl0, H6⟩ := test_some H5
  obtain ⟨hl1, H7⟩ := test_some H6
  obtain ⟨hl2, H8⟩ := test_some H7
  obtain ⟨hl3, H9⟩ := test_some H8
  have hl0 := of_decide_eq_true hl0
  have hl1 := of_decide_eq_true hl1
  have hl2 := of_decide_eq_true hl2
  have hl3 := of_decide_eq_true hl3
  obtain ⟨m, rfl⟩ : ∃ m : Nat, l = (m : Int) := ⟨l.toNat, by omega⟩
  cases iv_c ha with
  | view _ _ _ _ _ q o hg hle ho hc =>
    cases iv_c hy with
    | v _ _ =>
      refine ⟨_, H9, fun hf => ?_⟩
      have hk : u key = false := hf key (by simp)
      obtain ⟨rd1, hrow1⟩ := hb.slice rel hg hl2 ho
      have hlen : ((xs.drop lo).take n).length = n := by simp; omega
      have hz := hc z rfl
      have hm : ((m : Int)).toNat = m := by omega
      rw [hm] at hl3 ⊢
      have hds2 : d2 = .int kn := hdr2.int
      subst hds2
      have := append_grow_zeros (key := key) (kq := kq) (ty := ty) (B := B) (M := M) (O := O) hu1 hu2 hT hzz rel hk hby hsz hrow1 (l := m) (by omega) (by rw [hlen]; omega) (by rw [hlen]; exact hl3)
      rw [hlen] at this
      have e : Builtin.append_ ts ty #[.slice (q.blk.map fun b => ⟨b, o, none⟩) n (q.cap - lo), .int kq m] = Builtin.append_ #[t, u'] ty #[.slice (q.blk.map fun b => ⟨b, o, none⟩) n (q.cap - lo), .int kq m] := by
        simp [Builtin.append_, h0, h1]
      unfold Step
      rw [e]
      exact this

theorem clearK_sound (hty : TyOK P cfg.ty) (rel : HRel M B O x h u w) (hsub : ∀ i b, hr i = some b → h i = some b) {t ty : Nat} {ts : Array Nat} (h0 : ts[0]? = some t) {a : IV} {A : Value}
    (ha : IVRel x w A a) (H : clearK cfg hr k t a = some r) : ∃ out, k out = some r ∧ Step P M B O x h u w out (Builtin.clear_ ts ty #[A]) := by
  unfold clearK at H
  split at H
  case h_2 => cases H
  rename_i e id wd lo n c hd
  obtain ⟨i, hi, H1⟩ := bindK_some H
  obtain ⟨τ, hτ, H2⟩ := bindK_some H1
  obtain ⟨z, hz, H3⟩ := bindK_some H2
  obtain ⟨⟨hsz, hwd⟩, H4⟩ := need_some H3
  clear H H1 H2 H3
  subst hwd
  obtain ⟨d1, hu1, hdr1⟩ := hty.und hd
  have hds1 := hdr1.sl; subst hds1
  have hT := hty _ _ hi
  obtain ⟨zv, hzr, hzs, hzc, hz1⟩ := hT.runZero
  obtain ⟨q1, q2⟩ := dec1_get hz
  cases iv_c ha with
  | view _ _ _ _ _ q o hg hle ho hc =>
    have hp := width_pos τ
    have hzl : (Builtin.zeroCells zv.cells n).toList.length = n * width τ := by rw [Array.length_toList, zeroCells_size, hzs, hsz]
    have hzget : ∀ i' j, i' < n → j < width τ → (Builtin.zeroCells zv.cells n).toList.getD (i' * width τ + j) undef = zv.cells.getD j undef := by
      intro i' j hi' hj
      have e2 : (i' * width τ + j) % width τ = j := by rw [Nat.mul_comm, Nat.mul_add_mod, Nat.mod_eq_of_lt hj]
      have hlt : i' * width τ + j < n * width τ := by
        have : (i' + 1) * width τ ≤ n * width τ := Nat.mul_le_mul_right _ (by omega)
        rw [Nat.add_mul] at this; omega
      have hj' : j < zv.cells.size := by omega
      simp only [Builtin.zeroCells, List.getD, Array.getElem?_toList, Array.getElem?_map]
      rw [Array.getElem?_range]
      simp only [hzs, hsz, hlt, if_true, Option.map_some, e2, Option.getD_some]
      simp [Array.getD, hj']
    have hone : ∀ v, v ∈ (Builtin.zeroCells zv.cells n).toList → v.oneCell' = true := by
      intro v hv
      obtain ⟨m, hm⟩ := List.mem_iff_getElem?.1 hv
      have hmlt : m < n * width τ := by
        rcases Nat.lt_or_ge m (n * width τ) with h' | h'
        · exact h'
        · rw [List.getElem?_eq_none (by omega)] at hm; cases hm
      have p1 : m / width τ < n := Nat.div_lt_of_lt_mul (by rw [Nat.mul_comm]; exact hmlt)
      have p2 : m % width τ < width τ := Nat.mod_lt _ hp
      have p3 : m / width τ * width τ + m % width τ = m := by rw [Nat.mul_comm]; exact Nat.div_add_mod m (width τ)
      have := hzget _ _ p1 p2
      rw [p3] at this
      simp only [List.getD, hm, Option.getD_some] at this
      rw [this]
      have hj' : m % width τ < zv.cells.size := by omega
      refine hz1 _ ?_
      simp [Array.getD, hj']
    obtain ⟨out, g1, g2, g3, g4⟩ := writeVK_sound (P := P) (x := x) rel hsub hg (by rw [List.length_replicate]; exact hle) (news := (Builtin.zeroCells zv.cells n).toList) (by rw [hzl, List.length_replicate]) hone (fun i' el hi' j c hcc => by
      have hlt : i' < n := by
        rcases Nat.lt_or_ge i' n with h' | h'
        · exact h'
        · rw [List.getElem?_eq_none (by rw [List.length_replicate]; exact h')] at hi'; cases hi'
      rw [List.getElem?_replicate, if_pos hlt] at hi'
      injection hi' with hi'
      subst hi'
      have hj : j < width τ := by
        have := enc_length τ z
        rcases Nat.lt_or_ge j (width τ) with h' | h'
        · exact h'
        · rw [List.getElem?_eq_none (by omega)] at hcc; cases hcc
      rw [hzget _ _ hlt hj]
      obtain ⟨c0, hc0, ht⟩ := q2 j c hcc
      refine ht _ _ _ ?_
      rw [hzc, List.getElem?_map] at hc0
      have hj' : j < zv.cells.size := by omega
      have : zv.cells.toList[j]? = some (zv.cells.getD j undef) := by simp [Array.getD, hj']
      rw [this] at hc0
      injection hc0 with hc0
      rw [← hc0]
      exact .v _ (hz1 _ (List.mem_of_getElem? this))) H4
    refine ⟨out, g1, ?_⟩
    have hres : ∀ w', IVRel x w' (.tuple #[]) out.v := fun w' => by rw [g2]; exact .tup #[] [] rfl fun j c hc => by simp at hc
    rcases g4 with ⟨p1, p2, p3⟩ | ⟨b, w', p1, p2, p3, p4, p5⟩
    · refine ⟨_, w, x, ?_, Ext.refl _ _, Fr.refl _ _ _, (by rw [g3]; exact p3), hres w⟩
      rw [p1]
      simp [Builtin.clear_, h0, run_underlying hu1]
    · refine ⟨_, w', x, ?_, p3, p4, (by rw [g3]; exact p5), hres w'⟩
      rw [p1]
      by_cases hn : n = 0
      · subst hn
        have h2 := p2 _ rfl
        have hnil : (Builtin.zeroCells zv.cells 0).toList = [] := by rw [← List.length_eq_zero_iff, hzl]; simp
        rw [hnil] at h2
        have : w' = w := by
          simp only [storeCells] at h2
          injection h2 with _ h2; exact h2.symm
        subst this
        simp [Builtin.clear_, h0, run_underlying hu1]
      · have ho' := ho (.inl (by omega))
        obtain ⟨m, rfl⟩ : ∃ m, n = m + 1 := ⟨n - 1, by omega⟩
        have h2 := p2 o ho'
        simp [Builtin.clear_, h0, run_underlying hu1, hzr, h2]

theorem run_len_slice {a : Option Addr} {n c : Nat} : (Builtin.lenOf (.slice a n c)).run P w = .ok n w := rfl

theorem elemsK_shrink (rel : HRel M B O x h u w) (hsub : ∀ i b, hr i = some b → h i = some b) {t : Ty} {a : IV} {A : Value} {kk : List (El t) → R} {n : Nat} (ha : IVRel x w A a) (H : elemsK hr t (shrink n a) kk = some r) :
    ∃ ys ad cap rd nY, kk ys = some r ∧ A = .slice ad nY cap ∧ Nat.min nY n = Nat.min ys.length n ∧ SlRow x w t ys ad cap rd := by
  by_cases hv : ∃ id wd lo m c, a = .c (.view id wd lo m c)
  · obtain ⟨id, wd, lo, m, c, rfl⟩ := hv
    cases iv_c ha with
    | view _ _ _ _ _ q o hg hle ho hc =>
      have ha' : IVRel x w (.slice (q.blk.map fun b => ⟨b, o, none⟩) (Nat.min m n) (q.cap - lo)) (shrink n (.c (.view id wd lo m c))) :=
        .c _ _ (.view id wd lo (Nat.min m n) c q o hg (by have : Nat.min m n ≤ m := Nat.min_le_left _ _; omega) ho hc)
      obtain ⟨ys, ad, cap, rd, h1, h2, h3⟩ := elemsK_sound rel hsub ha' H
      injection h2 with e1 e2 e3
      refine ⟨ys, ad, cap, rd, m, h1, by rw [e1, e3], ?_, h3⟩
      rw [← e2]
      show min m n = min (min m n) n
      omega
  · have e : shrink n a = a := by
      unfold shrink
      split
      · exact absurd ⟨_, _, _, _, _, rfl⟩ hv
      · rfl
    rw [e] at H
    obtain ⟨ys, ad, cap, rd, h1, h2, h3⟩ := elemsK_sound rel hsub ha H
    exact ⟨ys, ad, cap, rd, ys.length, h1, h2, rfl, h3⟩

theorem copyK_sound (hty : TyOK P cfg.ty) (rel : HRel M B O x h u w) (hsub : ∀ i b, hr i = some b → h i = some b) {t u' ty : Nat} {ts : Array Nat} (h0 : ts[0]? = some t) {a y : IV} {A Y : Value}
    (ha : IVRel x w A a) (hy : IVRel x w Y y) (H : copyK cfg hr k t u' a y = some r) :
    ∃ out, k out = some r ∧ Step P M B O x h u w out (Builtin.copy_ ts ty #[A, Y]) := by
  unfold copyK at H
  split at H
  case h_2 => cases H
  rename_i e e2 id wd lo n c hd1 hd2
  obtain ⟨i, hi, H1⟩ := bindK_some H
  obtain ⟨τ, hτ, H2⟩ := bindK_some H1
  obtain ⟨ys, ad, cy, rd2, nY, H3, rfl, hnY, hrow2⟩ := elemsK_shrink rel hsub hy H2
  obtain ⟨⟨hsz, hwd⟩, H4⟩ := need_some H3
  clear H H1 H2 H3
  subst hwd
  obtain ⟨d1, hu1, hdr1⟩ := hty.und hd1
  have hds1 := hdr1.sl; subst hds1
  have hT := hty _ _ hi
  cases iv_c ha with
  | view _ _ _ _ _ q o hg hle ho hc =>
    -- the part that is copied
    have hlen : (ys.take n).length = Nat.min nY n := by rw [List.length_take, Nat.min_comm, hnY]
    have hrow : SlRow x w τ (ys.take n) ad cy rd2 := by
      refine ⟨Nat.le_trans (by rw [List.length_take]; exact Nat.min_le_right _ _) hrow2.cap, hrow2.nil, fun i hi j hj => hrow2.cell i (by rw [List.length_take] at hi; omega) j hj, fun i e hi j c hc => ?_⟩
      have hin : i < n := by
        rcases Nat.lt_or_ge i n with h' | h'
        · exact h'
        · rw [List.getElem?_eq_none (by rw [List.length_take]; omega)] at hi; cases hi
      rw [List.getElem?_take_of_lt hin] at hi
      exact hrow2.el i e hi j c hc
    obtain ⟨r1, r2⟩ := rowList_one hrow
    obtain ⟨out, g1, g2, g3, g4⟩ := writeVK_sound (P := P) rel hsub hg (by have := Nat.min_le_right nY n; rw [hlen]; have e9 : Nat.min nY n ≤ n := Nat.min_le_right _ _; omega) (by rw [rowList_length]) r1 r2 H4
    refine ⟨out, g1, ?_⟩
    have fi := run_first (P := P) (w1 := w) (fun _ => rfl) hrow nY cy
    rw [← hsz, hlen] at fi
    have hres : ∀ w', IVRel x w' (goInt (Nat.min nY n)) out.v := fun w' => by
      rw [g2, hlen]; exact vrel_int _ _
    rcases g4 with ⟨p1, p2, p3⟩ | ⟨b, w', p1, p2, p3, p4, p5⟩
    · refine ⟨_, w, x, ?_, Ext.refl _ _, Fr.refl _ _ _, (by rw [g3]; exact p3), hres w⟩
      rw [p1]
      simp only [Builtin.copy_, h0]
      simp [run_underlying hu1, run_len_slice, hT.runSize, fi]
    · refine ⟨_, w', x, ?_, p3, p4, (by rw [g3]; exact p5), hres w'⟩
      rw [p1]
      have hst : (storeCells ⟨b, o, none⟩ (rowList rd2 (Nat.min nY n) i.size)).run P w = .ok () w' := by
        rw [hlen] at p2
        by_cases hn : n = 0
        · subst hn
          have e0 : Nat.min nY 0 = 0 := Nat.min_zero _
          rw [e0] at p2 ⊢
          have h2 := p2 _ rfl
          have hnil : ∀ wd, rowList rd2 0 wd = [] := fun wd => by simp [rowList]
          rw [hnil] at h2 ⊢
          exact h2
        · have ho' := ho (.inl (by omega))
          rw [hsz]
          exact p2 o ho'
      simp only [Builtin.copy_, h0]
      simp [run_underlying hu1, run_len_slice, hT.runSize, fi, hst]

theorem capK_sound (hty : TyOK P cfg.ty) (rel : HRel M B O x h u w) {t ty : Nat} {ts : Array Nat} (h0 : ts[0]? = some t) {a : IV} {A : Value}
    (ha : IVRel x w A a) (H : capK cfg k t a = some r) : ∃ out, k out = some r ∧ Step P M B O x h u w out (Builtin.cap_ ts ty #[A]) := by
  unfold capK at H
  split at H
  case h_2 => cases H
  rename_i e id wd lo n z hd
  obtain ⟨d1, hu1, hdr1⟩ := hty.und hd
  have hds1 := hdr1.sl; subst hds1
  cases iv_c ha with
  | view _ _ _ _ _ q o hg hle ho hc =>
    have := hc z rfl
    subst this
    exact ⟨_, H, Step.pure rel (v := .int .i64 ((q.cap - lo : Nat) : Int)) (by simp [Builtin.cap_, h0, run_underlying hu1, goInt]) (vrel_int _ _)⟩

end
end Go.Proofs.Ytdoilggfajngiaa.VE
