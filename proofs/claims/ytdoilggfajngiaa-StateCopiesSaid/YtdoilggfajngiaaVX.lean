/-
  What a law is handed, told as data; and the law's row out of its run.
-/
import Derived.Test.YtdoilggfajngiaaVU
import Derived.ProofKit
import Derived.SizedLaws
namespace Go.Proofs.Ytdoilggfajngiaa.VE
open Go Go.RowKit

def alignTy : Ty → Nat
  | .int k => k.bits / 8
  | .bool => 1
  | .str => 8
  | .sl _ => 8
  | .prod a b => max (alignTy a) (alignTy b)
  | .pint _ => 8
  | .addr => 8
def upTo (n a : Nat) : Nat := (n + a - 1) / a * a
mutual
def bytesTy : Ty → Nat
  | .int k => k.bits / 8
  | .bool => 1
  | .str => 16
  | .sl _ => 24
  | .prod a b => upTo (tailTy b (bytesTy a)) (max (alignTy a) (alignTy b))
  | .pint _ => 8
  | .addr => 8
/-- Where the fields end that begin here. -/
def tailTy : Ty → Nat → Nat
  | .int k, off => upTo off (k.bits / 8) + k.bits / 8
  | .bool, off => off + 1
  | .str, off => upTo off 8 + 16
  | .sl _, off => upTo off 8 + 24
  | .prod a b, off => tailTy b (upTo off (alignTy a) + bytesTy a)
  | .pint _, off => upTo off 8 + 8
  | .addr, off => upTo off 8 + 8
end

/-- Data as they may come: the numbers within their kinds, nothing longer than memory. -/
def wfB (RB : Nat) : (t : Ty) → El t → Prop
  | .int k, n => k.min ≤ n ∧ n ≤ k.max
  | .bool, _ => True
  | .str, s => (show ByteArray from s).size ≤ RB
  | .sl t, xs => (show List (El t) from xs).length * bytesTy t ≤ RB ∧ ∀ e, e ∈ (show List (El t) from xs) → wfB RB t e
  | .prod a b, x => wfB RB a x.1 ∧ wfB RB b x.2
  | .pint _, _ => True
  | .addr, _ => True

abbrev wfE : (t : Ty) → El t → Prop := wfB reachBytes

def fitFs (P : Program) (rec : Nat → Ty → Bool) : List Field → Nat → Ty → Bool
  | [f], off, t => Nat.beq f.offset off && Nat.beq (P.cellsOf f.type) (width t) && rec f.type t
  | f :: fs, off, .prod a b => Nat.beq f.offset off && Nat.beq (P.cellsOf f.type) (width a) && rec f.type a && fitFs P rec fs (off + width a) b
  | _, _, _ => false

def fitB (P : Program) : Nat → Nat → Ty → Bool
  | 0, _, _ => false
  | n + 1, t, τ =>
    match P.underlying t, τ with
    | some (.int k), .int k' => decide (k = k')
    | some .bool, .bool => true
    | some .string, .str => true
    | some (.slice e), .sl τ => Nat.beq (P.cellsOf e) (width τ) && Nat.ble (bytesTy τ) (P.bytesOf e) && fitB P n e τ
    | some (.struct fs), τ => Nat.beq (P.cellsOf t) (width τ) && fitFs P (fitB P n) fs.toList 0 τ
    | _, _ => false

def all0 (w : World) : Nat → Nat → Prop := fun b _ => b < w.heap.size

section
variable {RB : Nat} {H : Type} {en : TypeId × Value → H} {P : Program} {w : World} {base : Nat} {sp : Nat → Bool} {held : Bool}

theorem spot_of_cell {a : Addr} {v : Value} (h : w.cell? a = some v) : a.spot = none ∧ a.block < w.heap.size := by
  unfold World.cell? at h
  split at h
  · rename_i c t fr hb
    split at h
    · cases h
    · rename_i hs
      refine ⟨by simpa using hs, (Array.getElem?_eq_some_iff.1 hb).1⟩
  · cases h

def Told (w : World) (τ : Ty) (e : El τ) (cs : List Value) : Prop :=
  cs.length = width τ ∧ ∀ j c, (enc τ e)[j]? = some c → VRel (outside (all0 w) w) w (cs.getD j undef) c

def wOk (RB : Nat) (P : Program) (t : Nat) (d : DataW H) : Prop := ∀ n, n ∈ d.weights P t → n ≤ RB

theorem wOk_all {e : Nat} : ∀ {l : List (DataW H)}, (∀ n, n ∈ DataW.weightsAll P e l → n ≤ RB) → ∀ d, d ∈ l → wOk RB P e d
  | [], _, d, hd => by cases hd
  | a :: l, h, d, hd => by
    simp only [DataW.weightsAll, List.mem_append] at h
    rcases List.mem_cons.1 hd with rfl | hd
    · exact fun n hn => h n (.inl hn)
    · exact wOk_all (fun n hn => h n (.inr hn)) d hd

theorem open_fs {n : Nat} {recB : Nat → Ty → Bool} (ih : ∀ (t : Nat) (τ : Ty) (cs : List Value) (x : DataW H × List MemPlace), DataW.trod en P w base sp held n t cs = some x → recB t τ = true → wOk RB P t x.1 → ∃ e : El τ, wfB RB τ e ∧ Told w τ e cs) {cs : List Value} :
    ∀ (fs : List Field) (off : Nat) (τ : Ty) (xs : List (DataW H × List MemPlace)), fitFs P recB fs off τ = true → xs.length = fs.length →
      (∀ (i : Nat) (f : Field), fs[i]? = some f → DataW.trod en P w base sp held n f.type ((cs.drop f.offset).take (P.cellsOf f.type)) = xs[i]?) →
      (∀ m, m ∈ DataW.weightsEach P (fs.map (·.type)) (xs.map (·.1)) → m ≤ RB) →
      ∃ e : El τ, wfB RB τ e ∧ Told w τ e ((cs.drop off).take (width τ))
  | [], off, τ, xs, h, _, _, _ => by simp [fitFs] at h
  | [f], off, τ, xs, h, hl, hx, hw => by
    have h' : (Nat.beq f.offset off && Nat.beq (P.cellsOf f.type) (width τ) && recB f.type τ) = true := by
      cases τ <;> exact h
    simp only [Bool.and_eq_true] at h'
    obtain ⟨⟨h1, h2⟩, h3⟩ := h'
    match xs, hl with
    | [x], _ =>
      have := hx 0 f rfl
      rw [Nat.eq_of_beq_eq_true h1, Nat.eq_of_beq_eq_true h2] at this
      exact ih _ _ _ x this h3 fun m hm => hw m (by simp [DataW.weightsEach, hm])
  | f :: g :: fs, off, .prod a b, xs, h, hl, hx, hw => by
    simp only [fitFs, Bool.and_eq_true] at h
    obtain ⟨⟨⟨h1, h2⟩, h3⟩, h4⟩ := h
    match xs, hl with
    | x :: xs, hl =>
      have h0 := hx 0 f rfl
      rw [Nat.eq_of_beq_eq_true h1, Nat.eq_of_beq_eq_true h2] at h0
      obtain ⟨e1, w1, l1, r1⟩ := ih _ _ _ x h0 h3 fun m hm => hw m (by simp [DataW.weightsEach, hm])
      obtain ⟨e2, w2, l2, r2⟩ := open_fs ih (g :: fs) (off + width a) b xs h4 (by simpa using hl) (fun i f' hf => by simpa using hx (i + 1) f' (by simpa using hf)) fun m hm => hw m (by
        simp only [List.map_cons, DataW.weightsEach] at hm ⊢
        exact List.mem_append_right _ hm)
      refine ⟨(e1, e2), ⟨w1, w2⟩, ?_, fun j c hc => ?_⟩
      · have k1 : ((cs.drop off).take (width a)).length = width a := l1
        have k2 : ((cs.drop (off + width a)).take (width b)).length = width b := l2
        simp only [List.length_take, List.length_drop, width] at *
        omega
      · have k1 : ((cs.drop off).take (width a)).length = width a := l1
        simp only [enc] at hc
        by_cases hj : j < width a
        · rw [List.getElem?_append_left (by rw [enc_length]; exact hj)] at hc
          have := r1 j c hc
          have e : ((cs.drop off).take (width (.prod a b))).getD j undef = ((cs.drop off).take (width a)).getD j undef := by
            have : j < width a + width b := by omega
            simp only [List.getD, List.getElem?_take, width, if_pos hj, if_pos this]
          rw [e]; exact this
        · rw [List.getElem?_append_right (by rw [enc_length]; omega), enc_length] at hc
          have hjb : j - width a < width b := by
            have := (List.getElem?_eq_some_iff.1 hc).1
            rwa [enc_length] at this
          have := r2 (j - width a) c hc
          have e : ((cs.drop off).take (width (.prod a b))).getD j undef = ((cs.drop (off + width a)).take (width b)).getD (j - width a) undef := by
            have h5 : j < width a + width b := by omega
            simp only [List.getD, List.getElem?_take, width, if_pos hjb, if_pos h5, List.getElem?_drop]
            congr 2
            omega
          rw [e]; exact this
  | f :: g :: fs, off, .int _, xs, h, _, _, _ => by simp [fitFs] at h
  | f :: g :: fs, off, .bool, xs, h, _, _, _ => by simp [fitFs] at h
  | f :: g :: fs, off, .str, xs, h, _, _, _ => by simp [fitFs] at h
  | f :: g :: fs, off, .sl _, xs, h, _, _, _ => by simp [fitFs] at h

theorem open_ty : ∀ (m fuel t : Nat) (τ : Ty) (cs : List Value) (x : DataW H × List MemPlace), DataW.trod en P w base sp held fuel t cs = some x → fitB P m t τ = true → wOk RB P t x.1 → ∃ e : El τ, wfB RB τ e ∧ Told w τ e cs
  | 0, _, _, _, _, _, _, h, _ => by simp [fitB] at h
  | m + 1, fuel, t, τ, cs, x, hx, hf, hw => by
    have ih := open_ty m
    unfold fitB at hf
    split at hf
    · rename_i k k' hu
      obtain ⟨n, rfl, rfl, hwf⟩ := DataW.trod_int hu hx
      have : k = k' := of_decide_eq_true hf
      subst this
      have h2 : k.min ≤ n ∧ n ≤ k.max := by simpa [Lit.wf] using hwf
      refine ⟨n, h2, rfl, fun j c hc => ?_⟩
      cases j with
      | zero => simp [enc] at hc; subst hc; exact .v _ rfl
      | succ j => simp [enc] at hc
    · rename_i hu
      obtain ⟨b, rfl, rfl⟩ := DataW.trod_bool hu hx
      refine ⟨b, trivial, rfl, fun j c hc => ?_⟩
      cases j with
      | zero => simp [enc] at hc; subst hc; exact .v _ rfl
      | succ j => simp [enc] at hc
    · rename_i hu
      obtain ⟨s, rfl, rfl, _⟩ := DataW.trod_string hu hx
      refine ⟨s, ?_, rfl, fun j c hc => ?_⟩
      · have := hw s.data.toList.length (by simp [DataW.weights])
        simpa [wfB] using this
      · cases j with
        | zero => simp [enc] at hc; subst hc; exact .v _ rfl
        | succ j => simp [enc] at hc
    · rename_i e τ' hu
      simp only [Bool.and_eq_true] at hf
      obtain ⟨⟨f1, f2⟩, f3⟩ := hf
      have hce : P.cellsOf e = width τ' := Nat.eq_of_beq_eq_true f1
      have hby : bytesTy τ' ≤ P.bytesOf e := Nat.le_of_ble_eq_true f2
      rcases DataW.trod_slice hu hx with ⟨rfl, rfl⟩ | ⟨a, len, cap, elems, rest, n, _, rfl, rfl, hb, hl, hm, hlen, hel, _, _⟩
      · refine ⟨([] : List (El τ')), ⟨by simp, fun e he => (by cases he)⟩, rfl, fun j c hc => ?_⟩
        cases j with
        | zero =>
          simp [enc] at hc; subst hc
          exact .sl τ' [] none 0 (fun _ _ => undef) (Nat.le_refl _) (fun _ => rfl) (fun i hi => absurd hi (by simp)) (fun i e hi => by simp at hi)
        | succ j => simp [enc] at hc
      · simp only [wOk, DataW.weights, hu, List.mem_cons, List.mem_append] at hw
        have hlenB : len * bytesTy τ' ≤ RB := by
          have h1 := hw _ (.inl rfl)
          simp only [List.length_map] at h1
          rw [hlen] at h1
          have h2 : len * bytesTy τ' ≤ (len + rest.length) * P.bytesOf e := Nat.mul_le_mul (by omega) hby
          omega
        have each : ∀ i, i < len → ∃ (ce : List Value) (y : DataW H × List MemPlace), w.cells? base (a.add (i * width τ')) (width τ') = some ce ∧ elems[i]? = some y ∧ DataW.trod en P w base sp held n e ce = some y := by
          intro i hi
          have h1 := hel i hi
          have h2 : elems[i]? = some elems[i] := List.getElem?_eq_getElem (by omega)
          rw [h2, Option.bind_eq_some_iff, hce] at h1
          obtain ⟨ce, c1, c2⟩ := h1
          exact ⟨ce, elems[i], c1, h2, c2⟩
        have each2 : ∀ i, i < len → ∃ (q : List Value × El τ'), w.cells? base (a.add (i * width τ')) (width τ') = some q.1 ∧ wfB RB τ' q.2 ∧ Told w τ' q.2 q.1 := by
          intro i hi
          obtain ⟨ce, y, c1, c2, c3⟩ := each i hi
          obtain ⟨el, w1, t1⟩ := ih n e τ' ce y c3 f3 (wOk_all (fun k hk => hw k (.inr (.inl hk))) _ (List.mem_map_of_mem (List.mem_of_getElem? c2)))
          exact ⟨(ce, el), c1, w1, t1⟩
        obtain ⟨q, hq⟩ := Classical.axiomOfChoice (r := fun (i : Nat) (q : List Value × El τ') => i < len → w.cells? base (a.add (i * width τ')) (width τ') = some q.1 ∧ wfB RB τ' q.2 ∧ Told w τ' q.2 q.1) (fun i => by
          by_cases hi : i < len
          · obtain ⟨q, hq⟩ := each2 i hi
            exact ⟨q, fun _ => hq⟩
          · exact ⟨([], dflt τ'), fun h => absurd h hi⟩)
        refine ⟨(List.range len).map fun i => (q i).2, ⟨by simpa using hlenB, fun el hel' => ?_⟩, rfl, fun j c hc => ?_⟩
        · obtain ⟨i, hi, rfl⟩ := List.mem_map.1 hel'
          exact (hq i (List.mem_range.1 hi)).2.1
        · cases j with
          | succ j => simp [enc] at hc
          | zero =>
            simp [enc] at hc; subst hc
            have hcells : ∀ i, i < len → ∀ j, j < width τ' → w.cell? ((a.add (i * width τ')).add j) = some ((q i).1.getD j undef) := fun i hi j hj => by
              obtain ⟨c1, _, t1, _⟩ := hq i hi
              obtain ⟨_, _, k3⟩ := World.cells?_some c1
              rw [k3 j hj]
              have : j < (q i).1.length := by rw [t1]; exact hj
              simp [List.getD, List.getElem?_eq_getElem this]
            have hspot : 0 < len → a.spot = none := fun h0 => by
              have := (spot_of_cell (hcells 0 h0 0 (width_pos τ'))).1
              simpa [Addr.add] using this
            have haddr : 0 < len → ∀ i j, (a.add (i * width τ')).add j = ⟨a.block, a.off + (i * width τ' + j), none⟩ := fun h0 i j => by
              have hs := hspot h0
              obtain ⟨ab, ao, asp⟩ := a
              simp only at hs
              subst hs
              simp only [Addr.add]
              split <;> split <;> simp_all <;> omega
            have hll : ((List.range len).map fun i => (q i).2).length = len := by simp
            have key : VRel (outside (all0 w) w) w (.slice (some a) ((List.range len).map fun i => (q i).2).length cap) (.sl τ' ((List.range len).map fun i => (q i).2)) := by
              refine .sl τ' _ (some a) cap (fun i j => (q i).1.getD j undef) (by rw [hll]; exact hl) (fun h => by cases h) (fun i hi j hj => ?_) (fun i e' hi j c hc => ?_)
              · rw [hll] at hi
                have h0 : 0 < len := by omega
                have hc1 := hcells i hi j hj
                refine ⟨a, rfl, hspot h0, ?_, ?_⟩
                · have := (spot_of_cell hc1).2
                  rw [haddr h0] at this
                  exact this
                · rw [← haddr h0]; exact hc1
              · have hi' : i < len := by
                  have := (List.getElem?_eq_some_iff.1 hi).1
                  simpa using this
                have : e' = (q i).2 := by
                  simp only [List.getElem?_map, List.getElem?_range hi', Option.map_some, Option.some.injEq] at hi
                  exact hi.symm
                subst this
                exact (hq i hi').2.2.2 j c hc
            rw [hll] at key
            exact key
    · rename_i τ _ _ fs hu
      simp only [Bool.and_eq_true] at hf
      obtain ⟨f1, f2⟩ := hf
      obtain ⟨xs, n, _, rfl, hlen, hxl, hfx⟩ := DataW.trod_struct hu hx
      have hct : P.cellsOf t = width τ := Nat.eq_of_beq_eq_true f1
      have hwE : ∀ k, k ∈ DataW.weightsEach P (fs.toList.map (·.type)) (xs.map (·.1)) → k ≤ RB := fun k hk => hw k (by simp only [DataW.weights, hu]; exact hk)
      obtain ⟨e, w1, t1⟩ := open_fs (fun t τ cs x h1 h2 h3 => ih n t τ cs x h1 h2 h3) (cs := cs) fs.toList 0 τ xs f2 (by simpa using hxl) (fun i f hf => hfx i f (by simpa using hf)) hwE
      refine ⟨e, w1, ?_⟩
      rw [hct] at hlen
      have : (cs.drop 0).take (width τ) = cs := by rw [List.drop_zero, ← hlen, List.take_length]
      rw [this] at t1
      exact t1
    · cases hf

end
end Go.Proofs.Ytdoilggfajngiaa.VE
