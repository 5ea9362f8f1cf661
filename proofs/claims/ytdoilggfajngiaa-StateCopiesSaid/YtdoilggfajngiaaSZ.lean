/-
  States copied: the walk of picked.
-/
import Derived.Test.YtdoilggfajngiaaSY
import Derived.Great.CaseRows
namespace Go.Proofs.Ytdoilggfajngiaa
open Go VE Go.RowKit

attribute [local go_sem ↓] Go.wp_at_zero Go.wp_at_succ

theorem allF_ret (s : El TStatus) (hs : fits TStatus s = true) : VE.Returns Try.prog 44 [mkIV true (enc TStatus s)] (vb true) := SpecOK.returns allF_ok (args := [mkIV true (enc TStatus s)]) (by
  show test (fits TStatus s && true) (some (vb true, [])) = _
  rw [hs]; rfl)
theorem memF_ret (s : El TStatus) (hs : fits TStatus s = true) : VE.Returns Try.prog 32 [mkIV true (enc TStatus s)] (vb (memB s)) := SpecOK.returns memF_ok (args := [mkIV true (enc TStatus s)]) (by
  show test (fits TStatus s && true) (some (vb (memB s), [])) = _
  rw [hs]; rfl)
theorem bool_calls {g : FuncId} {s : El TStatus} {r : Bool} (h : VE.Returns Try.prog g [mkIV true (enc TStatus s)] (vb r)) {ok : Nat → Nat → Prop} {w : World} (hok : ∀ b o, ok b o → b < w.heap.size) (hl : Laid ok w) {us : Array Value} (hs : us.size = 21)
    (hr : ∀ j c, (enc TStatus s)[j]? = some c → VRel (outside ok w) w (us.getD j undef) c) :
    Calls Try.prog g #[.agg us] w fun e w' => e = .returned (.bool r) ∧ Below w.heap.size w w' := by
  refine (h w #[.agg us] ok hok hl rfl fun j c hc => ?_).mono fun e w' ⟨u, he, hb, hr⟩ => ?_
  · cases j with
    | zero => simp at hc; subst hc; exact .agg _ _ hs hr
    | succ j => simp at hc
  · obtain ⟨rfl, _⟩ := iv_v hr
    exact ⟨he, hb⟩

theorem size36 : (Try.prog.info? 36).map (·.size) = some 21 := by kernel_rfl
theorem size28 : (Try.prog.info? 28).map (·.size) = some 6 := by kernel_rfl
theorem row36 : ∃ d, Try.prog.underlying 36 = some d ∧ d.isRow = true := by
  have h : (Try.prog.underlying 36).any (·.isRow) = true := by kernel_rfl
  cases e : Try.prog.underlying 36 with
  | none => rw [e] at h; cases h
  | some d => exact ⟨d, rfl, by rw [e] at h; exact h⟩
theorem row28 : ∃ d, Try.prog.underlying 28 = some d ∧ d.isRow = true := by
  have h : (Try.prog.underlying 28).any (·.isRow) = true := by kernel_rfl
  cases e : Try.prog.underlying 28 with
  | none => rw [e] at h; cases h
  | some d => exact ⟨d, rfl, by rw [e] at h; exact h⟩
def infoOK (n b : Nat) (i : TypeInfo) : Bool := (match i.zero with | some z => Nat.beq z.cells.size n | none => false) && (Nat.beq i.size n && Nat.beq i.bytes b)
theorem info_of {t n b : Nat} (h : (Try.prog.info? t).any (infoOK n b) = true) : ∃ i z, Try.prog.info? t = some i ∧ i.zero = some z ∧ i.size = n ∧ i.bytes = b ∧ z.cells.size = n := by
  cases e : Try.prog.info? t with
  | none => rw [e] at h; cases h
  | some i =>
    rw [e] at h
    have h : infoOK n b i = true := h
    unfold infoOK at h
    cases e2 : i.zero with
    | none => rw [e2] at h; cases h
    | some z =>
      rw [e2] at h
      simp only [Bool.and_eq_true] at h
      exact ⟨i, z, rfl, e2, Nat.eq_of_beq_eq_true h.2.1, Nat.eq_of_beq_eq_true h.2.2, Nat.eq_of_beq_eq_true h.1⟩
theorem info36 : ∃ i z, Try.prog.info? 36 = some i ∧ i.zero = some z ∧ i.size = 21 ∧ i.bytes = 200 ∧ z.cells.size = 21 := info_of (by kernel_rfl)
theorem info28 : ∃ i z, Try.prog.info? 28 = some i ∧ i.zero = some z ∧ i.size = 6 ∧ i.bytes = 80 ∧ z.cells.size = 6 := info_of (by kernel_rfl)

/-- One element's cells. -/
theorem el_cells {l : List (El TStatus)} {ok : Nat → Nat → Prop} {w wr : World} (hok : ∀ b o, ok b o → b < w.heap.size) {a : Option Addr} {rd : Nat → Nat → Value}
    (hcell : ∀ i, i < l.length → ∀ j, j < width TStatus → ∃ ad, a = some ad ∧ ad.spot = none ∧ (outside ok w).ok ad.block (ad.off + (i * width TStatus + j)) ∧ w.cell? ⟨ad.block, ad.off + (i * width TStatus + j), none⟩ = some (rd i j))
    (hel : ∀ i e, l[i]? = some e → ∀ j c, (enc TStatus e)[j]? = some c → VRel (outside ok w) w (rd i j) c) {k : Nat} (hk : k < l.length) {x : El TStatus} (hx : l[k]? = some x) (hb : Below w.heap.size w wr) :
    ∃ b o, a = some ⟨b, o, none⟩ ∧ ∃ cs : List Value, cs.length = 21 ∧ wr.rangeAt b (o + k * 21) cs ∧ (∀ v ∈ cs, v.oneCell' = true) ∧ ∀ j c, (enc TStatus x)[j]? = some c → VRel (outside ok w) w (cs.toArray.getD j undef) c := by
  obtain ⟨⟨b, o, sp⟩, rfl, hsp, _, _⟩ := hcell k hk 0 (by decide)
  have hsp : sp = none := hsp
  subst hsp
  have get : ∀ j, j < 21 → ((List.range 21).map (rd k))[j]? = some (rd k j) := fun j hj => by rw [List.getElem?_map, List.getElem?_range hj]; rfl
  refine ⟨b, o, rfl, (List.range 21).map (rd k), by rw [List.length_map, List.length_range], fun j v hv => ?_, fun v hv => ?_, fun j c hc => ?_⟩
  · have hj : j < 21 := by have := (List.getElem?_eq_some_iff.1 hv).1; rwa [List.length_map, List.length_range] at this
    rw [get j hj] at hv
    cases hv
    obtain ⟨ad, e, _, h1, h2⟩ := hcell k hk j hj
    cases e
    have h2 : w.cell? ⟨b, o + (k * 21 + j), none⟩ = some (rd k j) := h2
    rw [← Nat.add_assoc] at h2
    exact (hb.cell (p := ⟨b, o + k * 21 + j, none⟩) (hok _ _ h1)).trans h2
  · obtain ⟨j, hj, rfl⟩ := List.mem_map.1 hv
    have hj := List.mem_range.1 hj
    have hlen : (enc TStatus x).length = 21 := enc_length _ _
    exact (hel k x hx j _ (List.getElem?_eq_getElem (show j < (enc TStatus x).length by omega))).one (enc_nojunk _ _ _ (List.getElem_mem ..))
  · have hj : j < 21 := by
      have := (List.getElem?_eq_some_iff.1 hc).1
      have hlen : (enc TStatus x).length = 21 := enc_length _ _
      omega
    have e : ((List.range 21).map (rd k)).toArray.getD j undef = rd k j := by
      rw [Array.getD_eq_getD_getElem?, List.getElem?_toArray, get j hj]; rfl
    rw [e]
    exact hel k x hx j c hc
theorem err_cell {x : El TStatus} {X : Xs} {w : World} {cs : List Value} (hcs : cs.length = 21) (h : ∀ j c, (enc TStatus x)[j]? = some c → VRel X w (cs.toArray.getD j undef) c) : ∃ z, cs[10]? = some (.int .i64 z) := by
  have h10 := h 10 _ rfl
  have e : cs.toArray.getD 10 undef = cs[10] := by
    rw [Array.getD_eq_getD_getElem?, List.getElem?_toArray, List.getElem?_eq_getElem (by omega)]; rfl
  rw [e] at h10
  rw [List.getElem?_eq_getElem (by omega)]
  generalize cs[10] = q at h10
  cases h10
  exact ⟨_, rfl⟩

theorem vrel_below {ok : Nat → Nat → Prop} {w w' : World} (hok : ∀ b o, ok b o → b < w.heap.size) (hb : Below w.heap.size w w') {u : Value} {c : IC} (h : VRel (outside ok w) w u c) : VRel (outside ok w') w' u c :=
  VRel.ext (x := outside ok w) (x' := outside ok w') ⟨fun _ _ h => h, fun _ _ h => h, fun b o h => Nat.lt_of_lt_of_le (show b < w.heap.size from h) hb.size, fun b o h => hb.cell (p := ⟨b, o, none⟩) (h.elim (fun h => h) (hok b o))⟩ h
theorem wpList_build1 {P : Program} {ops : Array Oper} {rest : List Oper} {o : Oper} {a : Act} {w : World} {Q : Exit → Act → World → Prop} (hg : o.guard = none) (t e : TypeId) (tm : Nat) (ho : o.op = .buildSlice t 1 #[(0, .tmp tm)]) (cs : Array Value) (N : Nat) (hN : w.heap.size = N) (d : Option Tmp) (hd : o.dst = d)
    (hu : P.underlying t = some (.slice e)) (hsz : (P.info? e).map (·.size) = some cs.size) (hz : ((P.info? e).bind (·.zero)).isSome = true) (h0 : 0 < cs.size) (h1 : cs.size ≤ 2 ^ 24) (hev : a.eval (.tmp tm) = .agg cs)
    (h : wpList P ops Q rest (a.put d (.slice (some ⟨N, 0, none⟩) 1 1)) (w.alloc (.cells cs e))) : wpList P ops Q (o :: rest) a w := by
  refine Go.Great.wpList_buildRows hg t e #[(0, .tmp tm)] cs.size [.agg cs] ho (fun _ => tm) N hN d hd hu hsz hz h0 (Nat.zero_lt_succ _) (by simpa using h1) rfl (fun v hv => ?_) (fun i hi => ?_) ?_
  · rw [List.mem_singleton.1 hv]; rfl
  · obtain rfl : i = 0 := by simpa using hi
    exact hev
  · have e1 : (([.agg cs] : List Value).flatMap fun v => v.cells.toList).toArray = cs := by
      show (cs.toList ++ []).toArray = cs
      rw [List.append_nil]
    rw [e1]
    exact h
theorem alloc_fresh (w : World) (Z : Array Value) (t : TypeId) : ∃ W, w.alloc (.cells Z t (0, 0)) = W ∧ (∀ j u, Z.toList[j]? = some u → W.cell? (Addr.add ⟨w.heap.size, 0, none⟩ j) = some u) ∧ Below w.heap.size w W ∧ W.heap.size = w.heap.size + 1 := by
  refine ⟨_, rfl, fun j u hu => ?_, (Below.refl _ w).alloc (Nat.le_refl _) _, by show (w.heap.push _).size = _; rw [Array.size_push]⟩
  have hb : (w.alloc (.cells Z t (0, 0))).heap[w.heap.size]? = some (.cells Z t (0, 0)) := by
    show (w.heap.push _)[w.heap.size]? = _
    rw [Array.getElem?_push_size]
  have hj : j < Z.size := by have := (List.getElem?_eq_some_iff.1 hu).1; simpa using this
  obtain ⟨k1, _⟩ := cell_blk (j := j) hb hj
  have e1 : Addr.add ⟨w.heap.size, 0, none⟩ j = ⟨w.heap.size, j, none⟩ := by unfold Addr.add; split <;> simp [*]
  rw [e1, k1]
  have : Z.getD j undef = u := by
    have e2 : Z[j]? = some u := by rw [← Array.getElem?_toList]; exact hu
    rw [Array.getD_eq_getD_getElem?, e2]; rfl
  rw [this]
theorem store_head {w : World} {b : Nat} {cs : List Value} {p i : Nat} {v : Value} (hr : w.rangeAt b 0 cs) (ht : w.there b 0 cs.length) (hp : p ≤ cs.length) {N0 : Nat} (h0 : N0 ≤ b) (hi : i < p) :
    ∃ W, w.setCells b 0 ((cs.take p).set i v) = W ∧ Below N0 w W ∧ W.heap.size = w.heap.size ∧ W.rangeAt b 0 (cs.set i v) := by
  have hl : ((cs.take p).set i v).length = p := by rw [List.length_set, List.length_take]; omega
  refine ⟨_, rfl, setCells_below h0 _ _ _, setCells_size _ _ _ _, fun j u hu => ?_⟩
  have hj : j < cs.length := by have := (List.getElem?_eq_some_iff.1 hu).1; rwa [List.length_set] at this
  by_cases hjp : j < p
  · have h := World.cell?_setCells_in b ((cs.take p).set i v) 0 w (fun k hk => (ht k (by omega)).1) j (by omega)
    rw [h, ← hu]
    rw [← List.getElem?_eq_getElem]
    simp only [List.getElem?_set, List.getElem?_take, List.length_take]
    rw [if_pos hjp]
    by_cases h1 : i = j
    · rw [if_pos h1, if_pos h1, if_pos (by omega), if_pos (by omega)]
    · rw [if_neg h1, if_neg h1]
  · rw [World.cell?_setCells_out b _ 0 w ⟨b, 0 + j, none⟩ (fun _ _ => .inr (by show 0 + ((cs.take p).set i v).length ≤ 0 + j; omega))]
    refine hr j u ?_
    rw [List.getElem?_set, if_neg (by omega)] at hu
    exact hu
theorem set_one {cs : List Value} {i : Nat} {v : Value} (h : ∀ u ∈ cs, u.oneCell' = true) (hv : v.oneCell' = true) : ∀ u ∈ cs.set i v, u.oneCell' = true := fun u hu => (List.mem_or_eq_of_mem_set hu).elim (h u) fun e => e ▸ hv
theorem MetaOK.one {B : Nat} {r : Option Nat} {u : Value} {w : World} (h : MetaOK B r u w) : u.oneCell' = true := by
  obtain ⟨a, n, c, rfl, _⟩ := h
  rfl
theorem take_rel {x : El TStatus} {X : Xs} {w : World} {cs : List Value} (hcs : cs.length = 21) (h : ∀ j c, (enc TStatus x)[j]? = some c → VRel X w (cs.toArray.getD j undef) c) : ∀ j c, (enc THost x.1)[j]? = some c → VRel X w ((cs.take 6).toArray.getD j undef) c := fun j c hc => by
  have hj : j < 6 := by
    have := (List.getElem?_eq_some_iff.1 hc).1
    have hlen : (enc THost x.1).length = 6 := enc_length _ _
    omega
  have e : (cs.take 6).toArray.getD j undef = cs.toArray.getD j undef := by
    simp only [Array.getD_eq_getD_getElem?, List.getElem?_toArray, List.getElem?_take]
    rw [if_pos hj]
  rw [e]
  refine h j c ?_
  have hlen : (enc THost x.1).length = 6 := enc_length _ _
  show (enc THost x.1 ++ _)[j]? = some c
  rw [List.getElem?_append_left (by omega)]
  exact hc
theorem metaN_setCells {B B2 g : Nat} {u : Value} {w : World} (h : MetaN B B2 u w) (hg : g < B2) (vs : List Value) (o : Nat) : MetaN B B2 u (w.setCells g o vs) := by
  obtain ⟨a, n, c, h1, h2, h3⟩ := h
  refine ⟨a, n, c, h1, h2, h3.imp id fun ⟨gi, e1, e2, e3, e4, e5⟩ => ⟨gi, e1, e2, e3, by rw [setCells_size]; exact e4, fun j hj => ?_⟩⟩
  rw [setCells_frozen, World.cell?_setCells_out _ _ _ _ _ (fun e : gi = g => absurd e (by omega))]
  exact e5 j hj
theorem under22 : Try.prog.underlying 22 = some (.slice 36) := by kernel_rfl
theorem zero36 : ((Try.prog.info? 36).bind (·.zero)).isSome = true := by kernel_rfl
theorem RowV.block {W mo : Nat} {er : Option Nat} {B : Nat} {v : Value} {m : Nat} {w : World} (h : RowV W mo er B v m w) {g c : Nat} (e : v = .slice (some ⟨g, 0, none⟩) m c) : g < w.heap.size := by
  rcases h with ⟨rfl, _⟩ | ⟨g', cap, L, rfl, h⟩
  · cases e
  · cases e
    exact h.lt

set_option maxHeartbeats 8000000 in
set_option maxRecDepth 1000000 in
theorem picked_all {l : List (El TStatus)} (hf : fits (.sl TStatus) l = true) {ok : Nat → Nat → Prop} {w : World} (hok : ∀ b o, ok b o → b < w.heap.size) (hl : Laid ok w) {u : Value} (hu : VRel (outside ok w) w u (.sl TStatus l)) :
    Calls Try.prog 31 #[u, .func (.func 44) #[] #[]] w fun e w' => ∃ v m, e = .returned v ∧ m ≤ l.length ∧ RowV 21 5 (some 10) w.heap.size v m w' ∧ Below w.heap.size w w' := by
  have hn : Try.f31.ntmps = 27 := rfl
  have hlen : l.length ≤ 703687441776 := by
    have h1 : l.length * 200 ≤ reachBytes := of_decide_eq_true (Bool.and_eq_true_iff.1 hf).1
    have hR : reachBytes = 140737488351232 := rfl
    omega
  obtain ⟨i36, z36, hi36, hz36, hs36, hb36, hc36⟩ := info36
  obtain ⟨d36, hu36, hd36⟩ := row36
  obtain ⟨d28, hu28, hd28⟩ := row28
  cases hu with
  | sl _ _ a cap rd hcap hnil hcell hel =>
  go_enter Try.func31, hn
  go_wp2
  go_loopw [5, 10] (fun v i wr => ∃ k m : Nat, k ≤ l.length ∧ m ≤ k ∧ i = .int .i64 (k : Int) ∧ RowV 21 5 (some 10) w.heap.size v m wr ∧ Below w.heap.size w wr)
    (fun _ i _ => l.length - (intOf i).toNat)
  case atStart => exact ⟨0, 0, by omega, by omega, rfl, .inl ⟨rfl, rfl⟩, Below.refl _ _⟩
  case round =>
    obtain ⟨k, m, hk, hm, rfl, hR, hb⟩ := hrel
    by_cases hk2 : k < l.length
    · have hx : l[k]? = some (rdEl TStatus l k) := rdEl_get (t := TStatus) hk2
      have hfx := fits_rd hf hk2
      obtain ⟨b, o, rfl, cs, hcs, hrl, hone, hrel2⟩ := el_cells hok hcell hel hk2 hx hb
      clear hcell hel
      generalize rdEl TStatus l k = x at *
      obtain ⟨z, hz⟩ := err_cell hcs hrel2
      have hcs5 : 5 < cs.length := by omega
      have hbs := hb.size
      have hsz : cs.toArray.size = 21 := by rw [List.size_toArray, hcs]
      go_wp2_with (first
        | (refine wpList_load_mid rfl 36 _ rfl b (o + k * 21) rfl cs d36 hrl hu36 hd36 (by rw [hcs]; exact size36) ?_)
        | (refine wpList_store_mid rfl 36 _ _ rfl wr.heap.size 0 cs.toArray rfl rfl (there_fresh _ _ _ (by rw [List.size_toArray, hcs]; decide)) (by rw [List.size_toArray, hcs]; exact size36) (all_oneCell_toArray hone) ?_; obtain ⟨W1, eW, hr1, ht1, hb1, hs1⟩ := store_fresh wr #[.int .i64 0, .string ⟨#[]⟩, .int .i64 0, .string ⟨#[]⟩, .int .i64 0, .slice none 0 0, .bool false, .int .i64 0, .int .i64 0, .int .i64 0, .int .i64 0, .int .i64 0, .int .i64 0, .bool false, .int .i64 0, .int .i64 0, .int .i64 0, .bool false, .int .i64 0, .int .i64 0, .int .i64 0] 36 cs (by rw [hcs]; decide); refine (show cs.toArray.toList = cs from rfl) ▸ ?_; refine eW ▸ ?_; clear eW)
        | (refine wpList_load_mid rfl 36 _ rfl wr.heap.size 0 rfl cs d36 hr1 hu36 hd36 (by rw [hcs]; exact size36) ?_)
        | (go_at_call 44; have hbw1 := hb.trans (hb1.mono hb.size); have hlw1 := laid_below hok hl hbw1; refine (bool_calls (allF_ret x hfx) hlw1.2 hlw1.1 hsz fun j c hc => vrel_below hok hbw1 (hrel2 j c hc)).mono ?_; rintro e W2 ⟨rfl, hb2⟩; have hr2 := rangeAt_below hr1 hb2 (by omega); have ht2 := there_below ht1 hb2 (by omega); have hs2 := hb2.size; have hbw2 := hbw1.trans (hb2.mono hbw1.size); have hlw2 := laid_below hok hl hbw2)
        | (refine wpList_load_mid rfl 28 _ rfl wr.heap.size 0 rfl (cs.take 6) d28 (fun j v hv => hr2 j v (by rw [List.getElem?_take] at hv; split at hv; exact hv; cases hv)) hu28 hd28 (by rw [List.length_take, hcs]; exact size28) ?_)
        | (go_at_call 35; refine (hcopy_calls (fits_stat hfx) hlw2.2 hlw2.1 (us := (cs.take 6).toArray) (by rw [List.size_toArray, List.length_take, hcs]; rfl) (take_rel hcs fun j c hc => vrel_below hok hbw2 (hrel2 j c hc))).mono ?_; rintro e W3 ⟨v, rfl, hmv, hb3⟩; have hr3 := rangeAt_below hr2 hb3 (by omega); have ht3 := there_below ht2 hb3 (by omega); have hs3 := hb3.size; have hbw3 := hbw2.trans (hb3.mono hbw2.size); refine (show (((cs.take 6).set 5 v).toArray) = (cs.take 6).toArray.setIfInBounds 5 v from (List.setIfInBounds_toArray ..).symm) ▸ ?_)
        | (refine wpList_store_mid rfl 28 _ _ rfl wr.heap.size 0 ((cs.take 6).set 5 v).toArray rfl rfl (fun j hj => ht3 j (by rw [List.size_toArray, List.length_set, List.length_take] at hj; omega)) (by rw [List.size_toArray, List.length_set, List.length_take, hcs]; exact size28) (all_oneCell_toArray (set_one (fun u hu => hone u (List.mem_of_mem_take hu)) hmv.one)) ?_; obtain ⟨W4, eW4, hb4, hs4, hr4⟩ := store_head (p := 6) (i := 5) (v := v) (N0 := wr.heap.size) hr3 ht3 (by omega) (Nat.le_refl _) (by omega); refine (show (((cs.take 6).set 5 v).toArray).toList = (cs.take 6).set 5 v from rfl) ▸ ?_; refine eW4 ▸ ?_; have hm4 := eW4 ▸ metaN_setCells (hmv.new (B0 := w.heap.size) (by omega)) (show wr.heap.size < W2.heap.size by omega) ((cs.take 6).set 5 v) 0; have h1v := hmv.one; clear eW4 hmv)
        | (refine wpList_load_mid rfl 36 _ rfl wr.heap.size 0 rfl (cs.set 5 v) d36 hr4 hu36 hd36 (by rw [List.length_set, hcs]; exact size36) ?_)
        | (refine wpList_build1 rfl 22 36 22 rfl (cs.set 5 v).toArray W4.heap.size rfl _ rfl under22 (by rw [List.size_toArray, List.length_set, hcs]; exact size36) zero36 (by rw [List.size_toArray, List.length_set, hcs]; decide) (by rw [List.size_toArray, List.length_set, hcs]; decide) rfl ?_; obtain ⟨W5, eW5, hc5, hb5, hs5⟩ := alloc_fresh W4 (cs.set 5 v).toArray 36; refine eW5 ▸ ?_; clear eW5)
        | (have hbr5 : Below wr.heap.size wr W5 := (hb1.trans ((hb2.mono (by omega)).trans ((hb3.mono (by omega)).trans hb4))).trans (hb5.mono (by omega)); refine wpList_row W5 rfl _ _ 22 rfl 36 i36 z36 21 200 under22 hi36 hz36 hs36 hb36 hc36 (by decide) (v := u5) (m := m) rfl (hR.below hbr5) (by omega) (B2 := W2.heap.size) (fun g c e => Nat.lt_of_lt_of_le (hR.block e) (by omega)) ⟨W4.heap.size, 0, none⟩ 1 (cs.set 5 v) rfl (by rw [List.length_set, hcs]) hc5 (set_one hone h1v) (by decide) (u := v) (by rw [List.getElem?_set]; simp [hcs5]) (hm4.below hb5) (fun o ho => by cases ho; exact ⟨by decide, z, by rw [List.getElem?_set, if_neg (by decide)]; exact hz⟩) (by unfold maxLen; omega) (by omega) ?_; intro v6 W6 hR6 hb6)
        )
      all_goals first
        | (refine ⟨⟨k + 1, m + 1, hk2, Nat.succ_le_succ hm, rfl, hR6, hb.trans ((hbr5.mono hbs).trans hb6)⟩, ?_⟩; show l.length - ((k : Int) + 1).toNat < l.length - (k : Int).toNat; omega)
        | (refine ⟨⟨k + 1, m, hk2, Nat.le_succ_of_le hm, rfl, hR.below ((hb1.trans (hb2.mono (by omega)))), hbw2⟩, ?_⟩; show l.length - ((k : Int) + 1).toNat < l.length - (k : Int).toNat; omega)
    · have hkl : k = l.length := by omega
      subst hkl
      go_wp2
      go_ret
      exact ⟨_, m, rfl, hm, hR, hb⟩

set_option maxHeartbeats 8000000 in
set_option maxRecDepth 1000000 in
theorem picked_mem {l : List (El TStatus)} (hf : fits (.sl TStatus) l = true) {ok : Nat → Nat → Prop} {w : World} (hok : ∀ b o, ok b o → b < w.heap.size) (hl : Laid ok w) {u : Value} (hu : VRel (outside ok w) w u (.sl TStatus l)) :
    Calls Try.prog 31 #[u, .func (.func 32) #[] #[]] w fun e w' => ∃ v m, e = .returned v ∧ m ≤ l.length ∧ RowV 21 5 (some 10) w.heap.size v m w' ∧ Below w.heap.size w w' := by
  have hn : Try.f31.ntmps = 27 := rfl
  have hlen : l.length ≤ 703687441776 := by
    have h1 : l.length * 200 ≤ reachBytes := of_decide_eq_true (Bool.and_eq_true_iff.1 hf).1
    have hR : reachBytes = 140737488351232 := rfl
    omega
  obtain ⟨i36, z36, hi36, hz36, hs36, hb36, hc36⟩ := info36
  obtain ⟨d36, hu36, hd36⟩ := row36
  obtain ⟨d28, hu28, hd28⟩ := row28
  cases hu with
  | sl _ _ a cap rd hcap hnil hcell hel =>
  go_enter Try.func31, hn
  go_wp2
  go_loopw [5, 10] (fun v i wr => ∃ k m : Nat, k ≤ l.length ∧ m ≤ k ∧ i = .int .i64 (k : Int) ∧ RowV 21 5 (some 10) w.heap.size v m wr ∧ Below w.heap.size w wr)
    (fun _ i _ => l.length - (intOf i).toNat)
  case atStart => exact ⟨0, 0, by omega, by omega, rfl, .inl ⟨rfl, rfl⟩, Below.refl _ _⟩
  case round =>
    obtain ⟨k, m, hk, hm, rfl, hR, hb⟩ := hrel
    by_cases hk2 : k < l.length
    · have hx : l[k]? = some (rdEl TStatus l k) := rdEl_get (t := TStatus) hk2
      have hfx := fits_rd hf hk2
      obtain ⟨b, o, rfl, cs, hcs, hrl, hone, hrel2⟩ := el_cells hok hcell hel hk2 hx hb
      clear hcell hel
      generalize rdEl TStatus l k = x at *
      obtain ⟨z, hz⟩ := err_cell hcs hrel2
      have hcs5 : 5 < cs.length := by omega
      have hbs := hb.size
      have hsz : cs.toArray.size = 21 := by rw [List.size_toArray, hcs]
      have hret := memF_ret x hfx
      generalize memB x = mx at hret
      cases mx <;>
      go_wp2_with (first
        | (refine wpList_load_mid rfl 36 _ rfl b (o + k * 21) rfl cs d36 hrl hu36 hd36 (by rw [hcs]; exact size36) ?_)
        | (refine wpList_store_mid rfl 36 _ _ rfl wr.heap.size 0 cs.toArray rfl rfl (there_fresh _ _ _ (by rw [List.size_toArray, hcs]; decide)) (by rw [List.size_toArray, hcs]; exact size36) (all_oneCell_toArray hone) ?_; obtain ⟨W1, eW, hr1, ht1, hb1, hs1⟩ := store_fresh wr #[.int .i64 0, .string ⟨#[]⟩, .int .i64 0, .string ⟨#[]⟩, .int .i64 0, .slice none 0 0, .bool false, .int .i64 0, .int .i64 0, .int .i64 0, .int .i64 0, .int .i64 0, .int .i64 0, .bool false, .int .i64 0, .int .i64 0, .int .i64 0, .bool false, .int .i64 0, .int .i64 0, .int .i64 0] 36 cs (by rw [hcs]; decide); refine (show cs.toArray.toList = cs from rfl) ▸ ?_; refine eW ▸ ?_; clear eW)
        | (refine wpList_load_mid rfl 36 _ rfl wr.heap.size 0 rfl cs d36 hr1 hu36 hd36 (by rw [hcs]; exact size36) ?_)
        | (go_at_call 32; have hbw1 := hb.trans (hb1.mono hb.size); have hlw1 := laid_below hok hl hbw1; refine (bool_calls (hret) hlw1.2 hlw1.1 hsz fun j c hc => vrel_below hok hbw1 (hrel2 j c hc)).mono ?_; rintro e W2 ⟨rfl, hb2⟩; have hr2 := rangeAt_below hr1 hb2 (by omega); have ht2 := there_below ht1 hb2 (by omega); have hs2 := hb2.size; have hbw2 := hbw1.trans (hb2.mono hbw1.size); have hlw2 := laid_below hok hl hbw2)
        | (refine wpList_load_mid rfl 28 _ rfl wr.heap.size 0 rfl (cs.take 6) d28 (fun j v hv => hr2 j v (by rw [List.getElem?_take] at hv; split at hv; exact hv; cases hv)) hu28 hd28 (by rw [List.length_take, hcs]; exact size28) ?_)
        | (go_at_call 35; refine (hcopy_calls (fits_stat hfx) hlw2.2 hlw2.1 (us := (cs.take 6).toArray) (by rw [List.size_toArray, List.length_take, hcs]; rfl) (take_rel hcs fun j c hc => vrel_below hok hbw2 (hrel2 j c hc))).mono ?_; rintro e W3 ⟨v, rfl, hmv, hb3⟩; have hr3 := rangeAt_below hr2 hb3 (by omega); have ht3 := there_below ht2 hb3 (by omega); have hs3 := hb3.size; have hbw3 := hbw2.trans (hb3.mono hbw2.size); refine (show (((cs.take 6).set 5 v).toArray) = (cs.take 6).toArray.setIfInBounds 5 v from (List.setIfInBounds_toArray ..).symm) ▸ ?_)
        | (refine wpList_store_mid rfl 28 _ _ rfl wr.heap.size 0 ((cs.take 6).set 5 v).toArray rfl rfl (fun j hj => ht3 j (by rw [List.size_toArray, List.length_set, List.length_take] at hj; omega)) (by rw [List.size_toArray, List.length_set, List.length_take, hcs]; exact size28) (all_oneCell_toArray (set_one (fun u hu => hone u (List.mem_of_mem_take hu)) hmv.one)) ?_; obtain ⟨W4, eW4, hb4, hs4, hr4⟩ := store_head (p := 6) (i := 5) (v := v) (N0 := wr.heap.size) hr3 ht3 (by omega) (Nat.le_refl _) (by omega); refine (show (((cs.take 6).set 5 v).toArray).toList = (cs.take 6).set 5 v from rfl) ▸ ?_; refine eW4 ▸ ?_; have hm4 := eW4 ▸ metaN_setCells (hmv.new (B0 := w.heap.size) (by omega)) (show wr.heap.size < W2.heap.size by omega) ((cs.take 6).set 5 v) 0; have h1v := hmv.one; clear eW4 hmv)
        | (refine wpList_load_mid rfl 36 _ rfl wr.heap.size 0 rfl (cs.set 5 v) d36 hr4 hu36 hd36 (by rw [List.length_set, hcs]; exact size36) ?_)
        | (refine wpList_build1 rfl 22 36 22 rfl (cs.set 5 v).toArray W4.heap.size rfl _ rfl under22 (by rw [List.size_toArray, List.length_set, hcs]; exact size36) zero36 (by rw [List.size_toArray, List.length_set, hcs]; decide) (by rw [List.size_toArray, List.length_set, hcs]; decide) rfl ?_; obtain ⟨W5, eW5, hc5, hb5, hs5⟩ := alloc_fresh W4 (cs.set 5 v).toArray 36; refine eW5 ▸ ?_; clear eW5)
        | (have hbr5 : Below wr.heap.size wr W5 := (hb1.trans ((hb2.mono (by omega)).trans ((hb3.mono (by omega)).trans hb4))).trans (hb5.mono (by omega)); refine wpList_row W5 rfl _ _ 22 rfl 36 i36 z36 21 200 under22 hi36 hz36 hs36 hb36 hc36 (by decide) (v := u5) (m := m) rfl (hR.below hbr5) (by omega) (B2 := W2.heap.size) (fun g c e => Nat.lt_of_lt_of_le (hR.block e) (by omega)) ⟨W4.heap.size, 0, none⟩ 1 (cs.set 5 v) rfl (by rw [List.length_set, hcs]) hc5 (set_one hone h1v) (by decide) (u := v) (by rw [List.getElem?_set]; simp [hcs5]) (hm4.below hb5) (fun o ho => by cases ho; exact ⟨by decide, z, by rw [List.getElem?_set, if_neg (by decide)]; exact hz⟩) (by unfold maxLen; omega) (by omega) ?_; intro v6 W6 hR6 hb6)
        )
      all_goals first
        | (refine ⟨⟨k + 1, m + 1, hk2, Nat.succ_le_succ hm, rfl, hR6, hb.trans ((hbr5.mono hbs).trans hb6)⟩, ?_⟩; show l.length - ((k : Int) + 1).toNat < l.length - (k : Int).toNat; omega)
        | (refine ⟨⟨k + 1, m, hk2, Nat.le_succ_of_le hm, rfl, hR.below ((hb1.trans (hb2.mono (by omega)))), hbw2⟩, ?_⟩; show l.length - ((k : Int) + 1).toNat < l.length - (k : Int).toNat; omega)
    · have hkl : k = l.length := by omega
      subst hkl
      go_wp2
      go_ret
      exact ⟨_, m, rfl, hm, hR, hb⟩

end Go.Proofs.Ytdoilggfajngiaa
