/-
  The ideal data and the model's memory: what it means that a value is told as a cell; how it lasts.
-/
import Derived.Test.YtdoilggfajngiaaVB
namespace Go.Proofs.Ytdoilggfajngiaa.VE
open Go Go.RowKit

structure Gh where
  blk : Option Nat
  cap : Nat
  len : Nat

structure Xs where
  g : Nat → Option Gh
  ok : Nat → Nat → Prop
  okp : Nat → Nat → Prop

theorem enc_length : ∀ (t : Ty) (e : El t), (enc t e).length = width t
  | .int _, _ => rfl
  | .bool, _ => rfl
  | .str, _ => rfl
  | .sl _, _ => rfl
  | .prod a b, e => by simp [enc, width, enc_length a, enc_length b]
  | .pint _, _ => rfl
  | .addr, _ => rfl

theorem width_pos : ∀ t : Ty, 0 < width t
  | .int _ => Nat.one_pos
  | .bool => Nat.one_pos
  | .str => Nat.one_pos
  | .sl _ => Nat.one_pos
  | .prod a b => by have := width_pos a; simp [width]; omega
  | .pint _ => Nat.one_pos
  | .addr => Nat.one_pos

/-- No name of the activation's own in it. -/
inductive Free : IC → Prop
  | v (u : Value) : Free (.v u)
  | junk : Free .junk
  | emp : Free .emp
  | psnap (cs : List IC) (off : Nat) (h : ∀ c, c ∈ cs → Free c) : Free (.psnap cs off)
  | sl (t : Ty) (xs : List (El t)) : Free (.sl t xs)
  | snap (cs : List IC) (off : Nat) (h : ∀ c, c ∈ cs → Free c) : Free (.snap cs off)
  | fn (f : FuncId) (cap : List IC) (h : ∀ c, c ∈ cap → Free c) : Free (.fn f cap)

theorem enc_free : ∀ (t : Ty) (e : El t) (c : IC), c ∈ enc t e → Free c
  | .int _, _, _, hc => by simp [enc] at hc; subst hc; exact .v _
  | .bool, _, _, hc => by simp [enc] at hc; subst hc; exact .v _
  | .str, _, _, hc => by simp [enc] at hc; subst hc; exact .v _
  | .sl _, _, _, hc => by simp [enc] at hc; subst hc; exact .sl _ _
  | .prod a b, e, c, hc => by
    simp only [enc, List.mem_append] at hc
    exact hc.elim (enc_free a _ c) (enc_free b _ c)
  | .pint _, _, _, hc => by
    simp [enc] at hc; subst hc
    exact .psnap _ _ fun c hc => by simp at hc; subst hc; exact .v _
  | .addr, _, _, hc => by simp [enc] at hc; subst hc; exact .v _

inductive VRel (x : Xs) (w : World) : Value → IC → Prop
  | v (u : Value) (h : u.oneCell' = true) : VRel x w u (.v u)
  | junk (u : Value) : VRel x w u .junk
  | emp (a : Addr) (cap : Nat) : VRel x w (.slice (some a) 0 cap) .emp
  | sl (t : Ty) (xs : List (El t)) (a : Option Addr) (cap : Nat) (rd : Nat → Nat → Value) (hcap : xs.length ≤ cap) (hnil : a = none → cap = 0)
      (hcell : ∀ i, i < xs.length → ∀ j, j < width t → ∃ ad, a = some ad ∧ ad.spot = none ∧ x.ok ad.block (ad.off + (i * width t + j)) ∧ w.cell? ⟨ad.block, ad.off + (i * width t + j), none⟩ = some (rd i j))
      (hel : ∀ i e, xs[i]? = some e → ∀ j c, (enc t e)[j]? = some c → VRel x w (rd i j) c) : VRel x w (.slice a xs.length cap) (.sl t xs)
  | sref (id : Nat) (q : Gh) (hg : x.g id = some q) : VRel x w (.slice (q.blk.map fun b => ⟨b, 0, none⟩) q.len q.cap) (.sref id)
  | view (id wd lo n : Nat) (c : Option Nat) (q : Gh) (o : Nat) (hg : x.g id = some q) (hle : lo + n ≤ q.cap) (ho : lo < q.cap ∨ lo = 0 → o = lo * wd) (hc : ∀ z, c = some z → q.cap = z) :
      VRel x w (.slice (q.blk.map fun b => ⟨b, o, none⟩) n (q.cap - lo)) (.view id wd lo n c)
  | mref (id : Nat) (q : Gh) (b : Nat) (hg : x.g id = some q) (hb : q.blk = some b) : VRel x w (.map (some b)) (.mref id)
  | ref (id off : Nat) (q : Gh) (b : Nat) (hg : x.g id = some q) (hb : q.blk = some b) : VRel x w (.pointer (some ⟨b, off, none⟩)) (.ref id off)
  | eref (id wd i off : Nat) (q : Gh) (b : Nat) (hg : x.g id = some q) (hb : q.blk = some b) (hi : i < q.len) : VRel x w (.pointer (some ⟨b, i * wd + off, none⟩)) (.eref id wd i off)
  | snap (cs : List IC) (off b base : Nat) (rd : Nat → Value) (hfree : ∀ c, c ∈ cs → Free c) (hcell : ∀ j, j < cs.length → x.okp b (base + j) ∧ w.cell? ⟨b, base + j, none⟩ = some (rd j))
      (hel : ∀ j c, cs[j]? = some c → VRel x w (rd j) c) : VRel x w (.pointer (some ⟨b, base + off, none⟩)) (.snap cs off)
  | psnap (cs : List IC) (off b base : Nat) (rd : Nat → Value) (hfree : ∀ c, c ∈ cs → Free c) (hcell : ∀ j, j < cs.length → x.ok b (base + j) ∧ w.cell? ⟨b, base + j, none⟩ = some (rd j))
      (hel : ∀ j c, cs[j]? = some c → VRel x w (rd j) c) : VRel x w (.pointer (some ⟨b, base + off, none⟩)) (.psnap cs off)
  | fn (f : FuncId) (cap : List IC) (caps : Array Value) (hs : caps.size = cap.length)
      (hel : ∀ j c, cap[j]? = some c → VRel x w (caps.getD j undef) c) : VRel x w (.func (.func f) #[] caps) (.fn f cap)

theorem VRel.one {x : Xs} {w : World} {u : Value} {c : IC} (h : VRel x w u c) (hj : isJunk c = false) : u.oneCell' = true := by
  cases h <;> first | assumption | rfl | (simp [isJunk] at hj)

inductive IVRel (x : Xs) (w : World) : Value → IV → Prop
  | c (u : Value) (c : IC) (h : VRel x w u c) : IVRel x w u (.c c)
  | agg (us : Array Value) (cs : List IC) (hs : us.size = cs.length) (h : ∀ j c, cs[j]? = some c → VRel x w (us.getD j undef) c) : IVRel x w (.agg us) (.agg cs)
  | tup (us : Array Value) (vs : List IV) (hs : us.size = vs.length) (h : ∀ j c, vs[j]? = some c → IVRel x w (us.getD j undef) c) : IVRel x w (.tuple us) (.tup vs)

/-- The ghosts grow, and what is kept reads as it did. -/
structure Ext (x : Xs) (w : World) (x' : Xs) (w' : World) : Prop where
  g : ∀ id q, x.g id = some q → x'.g id = some q
  ok : ∀ b o, x.ok b o → x'.ok b o
  okp : ∀ b o, x.okp b o → x'.okp b o
  cell : ∀ b o, x.okp b o ∨ x.ok b o → w'.cell? ⟨b, o, none⟩ = w.cell? ⟨b, o, none⟩

theorem Ext.refl (x : Xs) (w : World) : Ext x w x w := ⟨fun _ _ h => h, fun _ _ h => h, fun _ _ h => h, fun _ _ _ => rfl⟩
theorem Ext.trans {x y z : Xs} {w u v : World} (h : Ext x w y u) (k : Ext y u z v) : Ext x w z v :=
  ⟨fun i q hq => k.g i q (h.g i q hq), fun b o hb => k.ok b o (h.ok b o hb), fun b o hb => k.okp b o (h.okp b o hb),
   fun b o hb => (k.cell b o (hb.imp (h.okp b o) (h.ok b o))).trans (h.cell b o hb)⟩

theorem VRel.ext {x x' : Xs} {w w' : World} (e : Ext x w x' w') {u : Value} {c : IC} (h : VRel x w u c) : VRel x' w' u c := by
  induction h with
  | v u h => exact .v u h
  | junk u => exact .junk u
  | emp a cap => exact .emp a cap
  | sl t xs a cap rd hcap hnil hcell _ ih =>
    exact .sl t xs a cap rd hcap hnil (fun i hi j hj => by
      obtain ⟨ad, h1, h2, h3, h4⟩ := hcell i hi j hj
      exact ⟨ad, h1, h2, e.ok _ _ h3, (e.cell _ _ (.inr h3)).trans h4⟩) ih
  | sref id q hg => exact .sref id q (e.g _ _ hg)
  | view id wd lo n c q o hg hle ho hc => exact .view id wd lo n c q o (e.g _ _ hg) hle ho hc
  | mref id q b hg hb => exact .mref id q b (e.g _ _ hg) hb
  | ref id off q b hg hb => exact .ref id off q b (e.g _ _ hg) hb
  | eref id wd i off q b hg hb hi => exact .eref id wd i off q b (e.g _ _ hg) hb hi
  | snap cs off b base rd hfree hcell _ ih =>
    exact .snap cs off b base rd hfree (fun j hj => ⟨e.okp _ _ (hcell j hj).1, (e.cell _ _ (.inl (hcell j hj).1)).trans (hcell j hj).2⟩) ih
  | psnap cs off b base rd hfree hcell _ ih =>
    exact .psnap cs off b base rd hfree (fun j hj => ⟨e.ok _ _ (hcell j hj).1, (e.cell _ _ (.inr (hcell j hj).1)).trans (hcell j hj).2⟩) ih
  | fn f cap caps hs _ ih => exact .fn f cap caps hs ih

/-- What names nothing of one's own is told alike by others. -/
theorem VRel.free {x y : Xs} {w : World} {u : Value} {c : IC} (h : VRel x w u c) (hc : Free c) (h1 : ∀ b o, x.ok b o → y.ok b o) (h2 : ∀ b o, x.okp b o → y.okp b o) : VRel y w u c := by
  induction h with
  | v u h => exact .v u h
  | junk u => exact .junk u
  | emp a cap => exact .emp a cap
  | sl t xs a cap rd hcap hnil hcell hel ih =>
    exact .sl t xs a cap rd hcap hnil (fun i hi j hj => by
      obtain ⟨ad, p1, p2, p3, p4⟩ := hcell i hi j hj
      exact ⟨ad, p1, p2, h1 _ _ p3, p4⟩) fun i e hi j c hc' => ih i e hi j c hc' (enc_free t e c (List.mem_of_getElem? hc'))
  | sref id q hg => cases hc
  | view id wd lo n c q o hg hle ho hc' => cases hc
  | mref id q b hg hb => cases hc
  | ref id off q b hg hb => cases hc
  | eref id wd i off q b hg hb hi => cases hc
  | snap cs off b base rd hfree hcell _ ih =>
    exact .snap cs off b base rd hfree (fun j hj => ⟨h2 _ _ (hcell j hj).1, (hcell j hj).2⟩) fun j c hj => ih j c hj (hfree c (List.mem_of_getElem? hj))
  | psnap cs off b base rd hfree hcell _ ih =>
    exact .psnap cs off b base rd hfree (fun j hj => ⟨h1 _ _ (hcell j hj).1, (hcell j hj).2⟩) fun j c hj => ih j c hj (hfree c (List.mem_of_getElem? hj))
  | fn f cap caps hs _ ih =>
    cases hc with
    | fn _ _ hf => exact .fn f cap caps hs fun j c hj => ih j c hj (hf c (List.mem_of_getElem? hj))

theorem IVRel.ext {x x' : Xs} {w w' : World} (e : Ext x w x' w') {u : Value} {c : IV} (h : IVRel x w u c) : IVRel x' w' u c := by
  induction h with
  | c u c h => exact .c u c (h.ext e)
  | agg us cs hs h => exact .agg us cs hs fun j c hc => (h j c hc).ext e
  | tup us vs hs _ ih => exact .tup us vs hs ih

/-- A value's cells. -/
theorem IVRel.cells {x : Xs} {w : World} {u : Value} {c : IV} (h : IVRel x w u c) (ht : notTup c = true) (h1 : ∀ y, c = .c y → u.oneCell' = true) :
    u.cells.size = (cellsOf c).length ∧ ∀ j y, (cellsOf c)[j]? = some y → VRel x w (u.cells.getD j undef) y := by
  cases h with
  | c u c h =>
    have ho := h1 c rfl
    have e : u.cells = #[u] := by cases u <;> first | rfl | (simp [Value.oneCell'] at ho)
    rw [e]
    refine ⟨rfl, fun j y hy => ?_⟩
    cases j with
    | zero => simp [cellsOf] at hy; subst hy; exact h
    | succ j => simp [cellsOf] at hy
  | agg us cs hs h => exact ⟨hs, h⟩
  | tup => simp [notTup] at ht

/-- The cells of data that is no slice; its value. -/
def flatVals : (t : Ty) → El t → List Value
  | .int k, n => [.int k n]
  | .bool, b => [.bool b]
  | .str, s => [.string s]
  | .prod a b, x => flatVals a x.1 ++ flatVals b x.2
  | .sl _, _ => [undef]
  | .pint _, _ => [undef]
  | .addr, _ => [undef]
def valOf : (t : Ty) → El t → Value
  | .int k, n => .int k n
  | .bool, b => .bool b
  | .str, s => .string s
  | .prod a b, x => .agg (flatVals (.prod a b) x).toArray
  | .sl _, _ => undef
  | .pint _, _ => undef
  | .addr, _ => undef
def entOf (κ τ : Ty) (e : El κ × El τ × Nat) : MapEntry := { key := valOf κ e.1, val := valOf τ e.2.1, born := e.2.2 }

/-- A box and its block. -/
inductive BRel (x : Xs) (w : World) (q : Gh) : Box → Prop
  | cells (ty : Nat) (cs : List IC) (b : Nat) (vs : Array Value) (e : TypeId) (hb : q.blk = some b) (hw : w.heap[b]? = some (.cells vs e (0, 0))) (hs : vs.size = cs.length)
      (h : ∀ j c, cs[j]? = some c → VRel x w (vs.getD j undef) c) : BRel x w q (.cells ty cs)
  | ice (ty : Nat) (cs : List IC) (b : Nat) (vs : Array Value) (e : TypeId) (hb : q.blk = some b) (hw : w.heap[b]? = some (.cells vs e (0, 0))) (hs : vs.size = cs.length)
      (h : ∀ j c, cs[j]? = some c → VRel x w (vs.getD j undef) c) (hfree : ∀ c, c ∈ cs → Free c) (hok : ∀ j, j < cs.length → x.ok b j) : BRel x w q (.ice ty cs)
  | map (κ τ : Ty) (es : Ents κ τ) (c : Nat) (b : Nat) (hb : q.blk = some b) (hw : w.heap[b]? = some (.map (es.map (entOf κ τ)).toArray c)) : BRel x w q (.map κ τ es c)
  | row0 (ty : Nat) (t : Ty) (hb : q.blk = .none) (hc : q.cap = 0) : BRel x w q (.row ty t [])
  | row (ty : Nat) (t : Ty) (xs : List (El t)) (b : Nat) (vs : Array Value) (e : TypeId) (hb : q.blk = some b) (hw : w.heap[b]? = some (.cells vs e (0, 0)))
      (hc : xs.length ≤ q.cap) (hs : vs.size = q.cap * width t) (h : ∀ i el, xs[i]? = some el → ∀ j c, (enc t el)[j]? = some c → VRel x w (vs.getD (i * width t + j) undef) c) : BRel x w q (.row ty t xs)
  | none (ty : Nat) (t : Ty) (fr : Bool) (hb : q.blk = .none) (hc : q.cap = 0) (hl : q.len = 0) : BRel x w q (.arr ty t [] fr)
  | arr (ty : Nat) (t : Ty) (xs : List (El t)) (fr : Bool) (b : Nat) (vs : Array Value) (e : TypeId) (hb : q.blk = some b) (hw : w.heap[b]? = some (.cells vs e (0, 0)))
      (hl : q.len = xs.length) (hc : xs.length ≤ q.cap) (hs : vs.size = q.cap * width t)
      (h : ∀ i el, xs[i]? = some el → ∀ j c, (enc t el)[j]? = some c → VRel x w (vs.getD (i * width t + j) undef) c)
      (hfr : fr = true → ∀ i, i < xs.length → ∀ j, j < width t → x.ok b (i * width t + j)) : BRel x w q (.arr ty t xs fr)

/-- The library's tables stand, and are written by nobody. -/
def Laid (ok : Nat → Nat → Prop) (w : World) : Prop := ∀ p, p ∈ tabCells → ok p.1 p.2.1 ∧ w.cell? ⟨p.1, p.2.1, none⟩ = p.2.2

theorem Laid.ext {x x' : Xs} {w w' : World} (h : Laid x.ok w) (e : Ext x w x' w') : Laid x'.ok w' := fun p hp => ⟨e.ok _ _ (h p hp).1, (e.cell _ _ (.inr (h p hp).1)).trans (h p hp).2⟩
theorem Laid.mono {ok ok' : Nat → Nat → Prop} {w : World} (h : Laid ok w) (m : ∀ b o, ok b o → ok' b o) : Laid ok' w := fun p hp => ⟨m _ _ (h p hp).1, (h p hp).2⟩

/-- The boxes of a state and the memory. 'M': the blocks, of those that were there, that may be written. 'B': from here on all is the activation's own. -/
structure HRel (M : Nat → Prop) (B : Nat) (O : Nat → Nat → Prop) (x : Xs) (h : Nat → Option Box) (u : Nat → Bool) (w : World) : Prop where
  box : ∀ id b, h id = some b → ∃ q, x.g id = some q ∧ BRel x w q b
  apart : ∀ i j bi bj qi qj k, h i = some bi → h j = some bj → x.g i = some qi → x.g j = some qj → qi.blk = some k → qj.blk = some k → i = j
  own : ∀ i bi qi k, h i = some bi → bi.hot = true → x.g i = some qi → qi.blk = some k → (B ≤ k ∨ M k) ∧ ∀ o, ¬ x.okp k o
  used : ∀ id q, x.g id = some q → u id = true
  okp : ∀ b o, x.ok b o → x.okp b o
  old : ∀ b o, x.okp b o → b < w.heap.size
  big : B ≤ w.heap.size
  okb : ∀ b o, x.ok b o → O b o ∨ B ≤ b ∨ M b
  laid : Laid x.ok w

/-- What was there is as it was, but for M. -/
structure Fr (M : Nat → Prop) (B : Nat) (w w' : World) : Prop where
  os : w'.os = w.os
  tape : w'.tape = w.tape
  output : w'.output = w.output
  size : w.heap.size ≤ w'.heap.size
  block : ∀ k, k < B → ¬ M k → w'.heap[k]? = w.heap[k]?

theorem Fr.refl (M : Nat → Prop) (B : Nat) (w : World) : Fr M B w w := ⟨rfl, rfl, rfl, Nat.le_refl _, fun _ _ _ => rfl⟩
theorem Fr.trans {M : Nat → Prop} {B : Nat} {a b c : World} (h : Fr M B a b) (k : Fr M B b c) : Fr M B a c :=
  ⟨k.os.trans h.os, k.tape.trans h.tape, k.output.trans h.output, Nat.le_trans h.size k.size, fun i hi hm => (k.block i hi hm).trans (h.block i hi hm)⟩

end Go.Proofs.Ytdoilggfajngiaa.VE
