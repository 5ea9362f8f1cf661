/-
  Each operation of the ideal machine is the model's, continued: make, append, conversions.
-/
import Derived.Test.YtdoilggfajngiaaVJ
import Derived.IntWalk
namespace Go.Proofs.Ytdoilggfajngiaa.VE
open Go Go.RowKit

section
variable {P : Program} {cfg : Cfg} {M : Nat → Prop} {B key : Nat} {O : Nat → Nat → Prop} {x : Xs} {h hr : Nat → Option Box} {u : Nat → Bool} {w : World} {k : Out → R} {r : IV × List (Nat × Box)}

theorem lim_mul {n bytes : Nat} (hl : n ≤ lim bytes) : n * bytes ≤ 140737488355328 := by
  unfold lim at hl
  have : n * bytes ≤ (140737488355328 / bytes) * bytes := Nat.mul_le_mul_right _ hl
  have h2 := Nat.div_mul_le_self 140737488355328 bytes
  omega

theorem lim_le {bytes : Nat} : lim bytes ≤ 140737488355328 := Nat.div_le_self _ _

theorem makeSliceK_sound (hty : TyOK P cfg.ty) (rel : HRel M B O x h u w) {t : Nat} {a b : IV} {A Bv : Value} (ha : IVRel x w A a) (hb : IVRel x w Bv b) (H : makeSliceK cfg key k t a b = some r) :
    ∃ out, k out = some r ∧ ((∀ i, i ∈ out.news → u i = false) → Step P M B O x h u w out (Instr.makeSlice t A Bv)) := by
  unfold makeSliceK at H
  split at H
  · rename_i e K1 l K2 c hd
    obtain ⟨i, hi, H1⟩ := bindK_some H
    obtain ⟨τ, hτ, H2⟩ := bindK_some H1
    obtain ⟨z, hz, H3⟩ := bindK_some H2
    obtain ⟨⟨hby, hsz⟩, H4⟩ := need_some H3
    obtain ⟨h0, H5⟩ := test_some H4
    obtain ⟨h1, H6⟩ := test_some H5
    obtain ⟨h2, H7⟩ := test_some H6
    clear H H1 H2 H3 H4 H5 H6
    have h0 := of_decide_eq_true h0
    have h1 := of_decide_eq_true h1
    have h2 := of_decide_eq_true h2
    refine ⟨_, H7, fun hf => ?_⟩
    have hk : u key = false := hf key (by simp)
    obtain ⟨d, hu, hdr⟩ := hty.und hd
    have hds := hdr.sl; subst hds
    have hT := hty _ _ hi
    obtain ⟨zv, hzv, hzs, hzc, hone⟩ := hT.runZero
    obtain ⟨ti, hti, hts, htb⟩ := hT.runInfo
    obtain ⟨rfl, _⟩ := iv_v ha
    obtain ⟨rfl, _⟩ := iv_v hb
    have hlm := @lim_le i.bytes
    have hcl : c.toNat ≤ lim i.bytes := by omega
    have hcb := lim_mul hcl
    have wl : IntKind.i64.wrap l = l := IntWalk.i64_in l (by omega)
    have wc : IntKind.i64.wrap c = c := IntWalk.i64_in c (by omega)
    have hcb' : (i.bytes : Int) * c ≤ 140737488355328 := by
      have e1 : ((c.toNat : Nat) : Int) = c := by omega
      have e2 : ((c.toNat * i.bytes : Nat) : Int) ≤ 140737488355328 := by omega
      rw [Int.natCast_mul, e1, Int.mul_comm] at e2
      exact e2
    obtain ⟨g1, g2⟩ := dec1_get hz
    have hzn : zv.cells.size = width τ := by rw [hzs, hsz]
    have hpos := width_pos τ
    let arr := (Array.range (c.toNat * i.size)).map fun m => (if c.toNat * i.size = 0 then #[] else zv.cells)[m % (if c.toNat * i.size = 0 then #[] else zv.cells).size]!
    have harr : arr.size = c.toNat * width τ := by simp [arr, hsz]
    have he := Ext.alloc rel hk ⟨some w.heap.size, c.toNat, l.toNat⟩ (.cells arr e)
    refine ⟨.slice (some ⟨w.heap.size, 0, none⟩) l.toNat c.toNat, w.alloc (.cells arr e), x.new key ⟨some w.heap.size, c.toNat, l.toNat⟩, ?_, he, Fr.alloc _ rel.big _, ?_, ?_⟩
    · have t1 : ¬ ((decide (c < 0) || decide ((i.bytes : Int) * c > 2 ^ 48)) = true ∨ l < 0 ∨ l > c) := by
        simp only [Bool.or_eq_true, decide_eq_true_eq]
        omega
      simp only [Instr.makeSlice, Sem.run_bind, run_underlying hu, Result.andThen_ok, asInt, asIntOf, Sem.run_pure, hti, htb, wl, wc]
      have t2 : ((decide (c < 0) || decide ((i.bytes : Int) * c > 2 ^ 48)) || decide (l < 0) || decide (l > c)) = false := by
        simp only [Bool.or_eq_false_iff, decide_eq_false_iff_not]
        omega
      simp only [Bool.or_assoc] at t2 ⊢
      have t3 : ¬ (c < 0 ∨ 2 ^ 48 < (i.bytes : Int) * c) := by omega
      have t4 : ¬ (l < 0) := by omega
      have t5 : ¬ (c < l) := by omega
      simp only [Bool.or_eq_true, decide_eq_true_eq, gt_iff_lt, t3, t4, t5, or_false, if_false, run_askRoom, Sem.run_bind, Result.andThen_ok, hT.runSize, Sem.run_ite, Sem.run_pure]
      by_cases hz0 : c.toNat * i.size = 0
      · simp only [hz0, if_true, Sem.run_pure, Result.andThen_ok, newRow, Sem.run_bind, run_newObj]
        simp [arr, hz0]
      · simp only [hz0, if_false, Sem.run_pure, Result.andThen_ok, newRow, Sem.run_bind, run_newObj, hzv]
        simp [arr, hz0]
    · refine rel.alloc hk arr e c.toNat l.toNat _ (.arr _ _ _ _ w.heap.size arr e rfl (heap_alloc_new _ _) (by simp) (by simp; omega) harr (fun n el hn j cc hc => ?_) (fun hf => by cases hf))
      have hn' : n < l.toNat := by
        rcases Nat.lt_or_ge n l.toNat with h' | h'
        · exact h'
        · rw [List.getElem?_eq_none (by simp; omega)] at hn; cases hn
      rw [List.getElem?_replicate] at hn
      rw [if_pos hn'] at hn
      injection hn with hn; subst hn
      have hjw : j < width τ := by
        have := enc_length τ z
        rcases Nat.lt_or_ge j (width τ) with h' | h'
        · exact h'
        · rw [List.getElem?_eq_none (by omega)] at hc; cases hc
      obtain ⟨c0, hc0, ht⟩ := g2 j cc hc
      refine VRel.ext he (ht _ _ _ ?_)
      have hlt : n * width τ + j < c.toNat * width τ := by
        have : (n + 1) * width τ ≤ c.toNat * width τ := Nat.mul_le_mul_right _ (by omega)
        rw [Nat.add_mul] at this; omega
      have hne : ¬ (c.toNat * i.size = 0) := by rw [hsz]; omega
      rw [hzc, List.getElem?_map] at hc0
      cases hj' : zv.cells.toList[j]? with
      | none => simp [hj'] at hc0
      | some v =>
        simp [hj'] at hc0; subst hc0
        have e1 : arr.getD (n * width τ + j) undef = v := by
          have e2 : (n * width τ + j) % width τ = j := by rw [Nat.mul_comm, Nat.mul_add_mod, Nat.mod_eq_of_lt hjw]
          have e3 : zv.cells[j]? = some v := by simpa using hj'
          have e4 : zv.cells[j]! = v := by simp [getElem!_def, e3]
          rw [getD_ext]
          have e5 : arr[n * width τ + j]? = some v := by
            simp only [arr, Array.getElem?_map]
            rw [Array.getElem?_range]
            have hlt' : n * width τ + j < c.toNat * i.size := by rw [hsz]; exact hlt
            simp only [hlt', if_true, Option.map_some, hne, if_false, hzn, e2, e4]
          rw [e5]; rfl
        rw [e1]
        exact .v _ (hone _ (List.mem_of_getElem? hj'))
    · exact .c _ _ (VRel.sref key ⟨some w.heap.size, c.toNat, l.toNat⟩ (upd_same _ _ _))
  · cases H

/-! ### append -/

def rowList (rd : Nat → Nat → Value) (n wd : Nat) : List Value := (List.range (n * wd)).map fun m => rd (m / wd) (m % wd)

theorem rowList_length (rd : Nat → Nat → Value) (n wd : Nat) : (rowList rd n wd).length = n * wd := by simp [rowList]

theorem rowList_get (rd : Nat → Nat → Value) {n wd i j : Nat} (hi : i < n) (hj : j < wd) : (rowList rd n wd)[i * wd + j]? = some (rd i j) := by
  have hlt : i * wd + j < n * wd := by
    have : (i + 1) * wd ≤ n * wd := Nat.mul_le_mul_right _ (by omega)
    rw [Nat.add_mul] at this; omega
  have e1 : (i * wd + j) % wd = j := by rw [Nat.mul_comm, Nat.mul_add_mod, Nat.mod_eq_of_lt hj]
  have e2 : (i * wd + j) / wd = i := by
    rw [Nat.mul_comm, Nat.mul_add_div (by omega), Nat.div_eq_of_lt hj, Nat.add_zero]
  simp [rowList, hlt, e1, e2]

theorem run_first {w1 : World} (hw : ∀ ad, w1.cell? ad = w.cell? ad) {t : Ty} {ys : List (El t)} {a : Option Addr} {cp : Nat} {rd : Nat → Nat → Value} (hrow : SlRow x w t ys a cp rd) (l c : Nat) :
    (Builtin.firstCells (width t) ys.length (.slice a l c)).run P w1 = .ok (rowList rd ys.length (width t)).toArray w1 := by
  cases a with
  | none =>
    have h0 := hrow.nil rfl
    have h1 := hrow.cap
    have : ys.length = 0 := by omega
    simp [Builtin.firstCells, rowList, this]
  | some ad =>
    simp only [Builtin.firstCells]
    have := run_loadCells_list (P := P) w1 ad (rowList rd ys.length (width t)) (fun j v hj => ?_)
    · rw [rowList_length] at this; exact this
    · have hlt : j < ys.length * width t := by
        rcases Nat.lt_or_ge j (ys.length * width t) with h' | h'
        · exact h'
        · rw [List.getElem?_eq_none (by rw [rowList_length]; omega)] at hj; cases hj
      have hp := width_pos t
      have h1 : j / width t < ys.length := Nat.div_lt_of_lt_mul (by rw [Nat.mul_comm]; exact hlt)
      have h2 : j % width t < width t := Nat.mod_lt _ hp
      have h3 : j / width t * width t + j % width t = j := by rw [Nat.mul_comm]; exact Nat.div_add_mod j (width t)
      obtain ⟨q, e1, e2, e3⟩ := hrow.cell _ h1 _ h2
      injection e1 with e1; subst e1
      obtain ⟨b, o, sp⟩ := ad
      simp only at e2; subst e2
      have h4 := rowList_get rd h1 h2
      rw [h3] at h4 e3
      rw [h4] at hj; injection hj with hj; subst hj
      rw [hw, add_none]; exact e3

theorem run_append_fits {t u' e e2 ty : TypeId} {i : TI} {ts : Array Nat} (h0 : ts[0]? = some t) (h1 : ts[1]? = some u') (ht : P.underlying t = some (.slice e)) (hu : P.underlying u' = some (.slice e2)) (hT : TOK P e i)
    {base : Option Addr} {sLen sCap l c : Nat} {a : Option Addr} {news : List Value} {w' : World} (hfit : sLen + l ≤ sCap)
    (hf : ∀ n, n = l → (Builtin.firstCells i.size n (.slice a l c)).run P w = .ok news.toArray w)
    (hs : (match base with | some b => (storeCells (b.add (sLen * i.size)) news).run P w = .ok () w' | none => w' = w)) :
    (Builtin.append_ ts ty #[.slice base sLen sCap, .slice a l c]).run P w = .ok (.slice base (sLen + l) sCap) w' := by
  have hf' := hf l rfl
  have a0 : (#[Value.slice base sLen sCap, .slice a l c] : Array Value)[0]? = some (.slice base sLen sCap) := rfl
  have a1 : (#[Value.slice base sLen sCap, .slice a l c] : Array Value)[1]? = some (.slice a l c) := rfl
  cases base with
  | none =>
    simp only at hs; subst hs
    simp [Builtin.append_, h0, h1, run_underlying ht, run_underlying hu, hT.runSize, Builtin.lenOf, hfit, hf']
  | some b =>
    simp only at hs
    simp [Builtin.append_, h0, h1, run_underlying ht, run_underlying hu, hT.runSize, Builtin.lenOf, hfit, hf', hs]

theorem grownCap_le (w : World) (need old : Nat) (e : TypeId) : need ≤ grownCap w need old e := by
  simp [grownCap, Question.cut]

theorem run_append_grows {t u' e e2 ty : TypeId} {i : TI} {ts : Array Nat} (h0 : ts[0]? = some t) (h1 : ts[1]? = some u') (ht : P.underlying t = some (.slice e)) (hu : P.underlying u' = some (.slice e2)) (hT : TOK P e i)
    {base : Option Addr} {sLen sCap l c : Nat} {a : Option Addr} {olds news : List Value} (hby : 0 < i.bytes) (hfit : sCap < sLen + l) (hlim : sLen + l ≤ lim i.bytes)
    (hf : (Builtin.firstCells i.size l (.slice a l c)).run P w.drew = .ok news.toArray w.drew) (hfo : (Builtin.firstCells i.size sLen (.slice base sLen sCap)).run P w.drew = .ok olds.toArray w.drew) :
    ∃ z : Value, z.cells.size = i.size ∧ (Builtin.append_ ts ty #[.slice base sLen sCap, .slice a l c]).run P w = .ok (.slice (some ⟨w.heap.size, 0, none⟩) (sLen + l) (grownCap w (sLen + l) sCap e))
      (w.drew.alloc (.cells (olds.toArray ++ news.toArray ++ Builtin.zeroCells z.cells (grownCap w (sLen + l) sCap e - (sLen + l))) e)) := by
  obtain ⟨z, hz, hzs, _⟩ := hT.runZero
  obtain ⟨ti, hti, hts, htb⟩ := hT.runInfo
  refine ⟨z, hzs, ?_⟩
  have hn : ¬ (sLen + l ≤ sCap) := by omega
  have hm := lim_mul hlim
  have hg := growslice_fits hfit hm
  have hlm := @lim_le i.bytes
  have h63 : ¬ (((sLen + l : Nat) : Int) > IntKind.i64.max ∧ (false = true ∨ ti.bytes = 0)) := by
    rintro ⟨_, h | h⟩
    · cases h
    · omega
  have h48 : ¬ (Builtin.nextslicecap (sLen + l) sCap * ti.bytes > 2 ^ 48) := by rw [htb]; omega
  have h48' : ¬ (281474976710656 < Builtin.nextslicecap (sLen + l) sCap * ti.bytes) := by rw [htb]; omega
  have h63' : ti.bytes ≠ 0 := by omega
  simp [Builtin.append_, h0, h1, run_underlying ht, run_underlying hu, hT.runSize, Builtin.lenOf, hn, hti, h48', h63', Question.forced, hf, hfo, hz, newRow, grownCap]
  congr 2
  rw [← Array.append_assoc]
  simp

theorem zeroCells_size (z : Array Value) (n : Nat) : (Builtin.zeroCells z n).size = n * z.size := by simp [Builtin.zeroCells]

/-- A row of elements written out: what stands in a block that begins with them. -/
theorem row_get {t : Ty} {xs ys : List (El t)} {rd1 rd2 : Nat → Nat → Value} {vs : Array Value} (h1 : ∀ m, m < xs.length * width t → vs[m]? = (rowList rd1 xs.length (width t))[m]?)
    (h2 : ∀ m, m < ys.length * width t → vs[xs.length * width t + m]? = (rowList rd2 ys.length (width t))[m]?)
    (e1 : ∀ i e, xs[i]? = some e → ∀ (j : Nat) (c : IC), (enc t e)[j]? = some c → VRel x w (rd1 i j) c) (e2 : ∀ i e, ys[i]? = some e → ∀ (j : Nat) (c : IC), (enc t e)[j]? = some c → VRel x w (rd2 i j) c) :
    ∀ i e, (xs ++ ys)[i]? = some e → ∀ (j : Nat) (c : IC), (enc t e)[j]? = some c → VRel x w (vs.getD (i * width t + j) undef) c := by
  intro i e hi j c hc
  have hjw : j < width t := by
    have := enc_length t e
    rcases Nat.lt_or_ge j (width t) with h' | h'
    · exact h'
    · rw [List.getElem?_eq_none (by omega)] at hc; cases hc
  have key : ∀ {n a : Nat}, a < n → a * width t + j < n * width t := by
    intro n a ha
    have : (a + 1) * width t ≤ n * width t := Nat.mul_le_mul_right _ (by omega)
    rw [Nat.add_mul] at this; omega
  rw [getD_ext]
  by_cases hlt : i < xs.length
  · rw [List.getElem?_append_left hlt] at hi
    rw [h1 _ (key hlt), rowList_get rd1 hlt hjw]
    exact e1 i e hi j c hc
  · rw [List.getElem?_append_right (by omega)] at hi
    have hlt2 : i - xs.length < ys.length := by
      rcases Nat.lt_or_ge (i - xs.length) ys.length with h' | h'
      · exact h'
      · rw [List.getElem?_eq_none h'] at hi; cases hi
    have e9 : i * width t + j = xs.length * width t + ((i - xs.length) * width t + j) := by
      have : i * width t = xs.length * width t + (i - xs.length) * width t := by rw [← Nat.add_mul]; congr 1; omega
      omega
    rw [e9, h2 _ (key hlt2), rowList_get rd2 hlt2 hjw]
    exact e2 _ e hi j c hc

end
end Go.Proofs.Ytdoilggfajngiaa.VE
