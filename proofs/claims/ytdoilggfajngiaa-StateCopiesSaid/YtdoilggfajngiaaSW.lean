/-
  States copied: rows of one's own, written cell by cell.
-/
import Derived.Test.YtdoilggfajngiaaSU
namespace Go.Proofs.Ytdoilggfajngiaa
open Go VE Go.RowKit

/-- Only cells of the blocks from B to H have been written. -/
structure Touch (B H : Nat) (w w' : World) : Prop where
  below : Below B w w'
  above : ∀ k, H ≤ k → w'.heap[k]? = w.heap[k]?
  size : w'.heap.size = w.heap.size
  some_ : ∀ a, (w.cell? a).isSome = true → (w'.cell? a).isSome = true
  frozen : ∀ a, w'.frozen? a = w.frozen? a
theorem Touch.refl (B H : Nat) (w : World) : Touch B H w w := ⟨Below.refl _ _, fun _ _ => rfl, rfl, fun _ h => h, fun _ => rfl⟩
theorem Touch.trans {B H : Nat} {a b c : World} (h : Touch B H a b) (k : Touch B H b c) : Touch B H a c :=
  ⟨h.below.trans k.below, fun i hi => (k.above i hi).trans (h.above i hi), k.size.trans h.size, fun x hx => k.some_ x (h.some_ x hx), fun x => (k.frozen x).trans (h.frozen x)⟩
theorem cell_block {w w' : World} {b o : Nat} (h : w'.heap[b]? = w.heap[b]?) : w'.cell? ⟨b, o, none⟩ = w.cell? ⟨b, o, none⟩ := by
  unfold World.cell?
  simp only [h]
theorem Touch.cell {B H : Nat} {w w' : World} (h : Touch B H w w') {b o : Nat} (hb : b < B ∨ H ≤ b) : w'.cell? ⟨b, o, none⟩ = w.cell? ⟨b, o, none⟩ :=
  cell_block (hb.elim (h.below.block b) (h.above b))
theorem setCell_block (w : World) (b o : Nat) (v : Value) (k : Nat) (h : k ≠ b) : (w.setCell ⟨b, o, none⟩ v).heap[k]? = w.heap[k]? := Below.heap_setCell w ⟨b, o, none⟩ v k h
theorem touch_set {B H b o : Nat} (w : World) (v : Value) (h1 : B ≤ b) (h2 : b < H) : Touch B H w (w.setCell ⟨b, o, none⟩ v) :=
  ⟨(Below.refl _ w).setCell (p := ⟨b, o, none⟩) h1 v, fun k hk => setCell_block w b o v k (by omega), setCells_size b [v] o w, fun a h => World.isSome_setCells b [v] o w a h, setCells_frozen b [v] o w⟩
theorem cell_set_ne {w : World} {b o : Nat} {v : Value} {c p : Nat} (h : c ≠ b ∨ p ≠ o) : (w.setCell ⟨b, o, none⟩ v).cell? ⟨c, p, none⟩ = w.cell? ⟨c, p, none⟩ :=
  World.cell?_setCells_out b [v] o w ⟨c, p, none⟩ (fun (hb : c = b) _ => by
    show p < o ∨ o + 1 ≤ p
    omega)
theorem cell_set_eq {w : World} {b o : Nat} {v : Value} (h : (w.cell? ⟨b, o, none⟩).isSome = true) : (w.setCell ⟨b, o, none⟩ v).cell? ⟨b, o, none⟩ = some v := by
  have := World.cell?_setCells_in b [v] o w (fun j hj => by
    obtain rfl : j = 0 := by simpa using hj
    exact h) 0 (by simp)
  exact this

/-- Pairs of one's own. -/
def MetaH (B H g : Nat) (u : Value) (w : World) : Prop :=
  ∃ a n c, u = .slice a n c ∧ n ≤ 140737488351232 ∧ (n = 0 ∨ ∃ gi, a = some ⟨gi, 0, none⟩ ∧ B ≤ gi ∧ gi ≠ g ∧ gi < H ∧ ∀ j, j < n * 2 → (w.cell? ⟨gi, j, none⟩).isSome = true ∧ w.frozen? ⟨gi, j, none⟩ = false)
structure RowH (W mo : Nat) (er : Option Nat) (B H g m : Nat) (w : World) : Prop where
  base : B ≤ g
  lt : g < H
  meta_ : ∀ i, i < m → ∃ u, w.cell? ⟨g, i * W + mo, none⟩ = some u ∧ MetaH B H g u w
  err : ∀ o, er = some o → ∀ i, i < m → (∃ z, w.cell? ⟨g, i * W + o, none⟩ = some (.int .i64 z)) ∧ w.frozen? ⟨g, i * W + o, none⟩ = false
def RowY (W mo : Nat) (er : Option Nat) (B H : Nat) (a : Option Addr) (m : Nat) (w : World) : Prop := m = 0 ∨ ∃ g, a = some ⟨g, 0, none⟩ ∧ RowH W mo er B H g m w
def RowZ (W mo : Nat) (er : Option Nat) (B H : Nat) (v : Value) (m : Nat) (w : World) : Prop := ∃ a cap, v = .slice a m cap ∧ RowY W mo er B H a m w

theorem MetaH.keep {B H g : Nat} {u : Value} {w w' : World} (h : MetaH B H g u w) (hs : ∀ gi o, gi < H → (w.cell? ⟨gi, o, none⟩).isSome = true → (w'.cell? ⟨gi, o, none⟩).isSome = true) (hf : ∀ gi o, gi < H → w'.frozen? ⟨gi, o, none⟩ = w.frozen? ⟨gi, o, none⟩) : MetaH B H g u w' := by
  obtain ⟨a, n, c, h1, h2, h3⟩ := h
  refine ⟨a, n, c, h1, h2, h3.imp id fun ⟨gi, e1, e2, e3, e4, e5⟩ => ⟨gi, e1, e2, e3, e4, fun j hj => ⟨hs gi j e4 (e5 j hj).1, ?_⟩⟩⟩
  rw [hf gi j e4]
  exact (e5 j hj).2
theorem RowV.z {W mo : Nat} {er : Option Nat} {B : Nat} {v : Value} {m : Nat} {w : World} (hmo : mo < W) (her : ∀ o, er = some o → o < W) (h : RowV W mo er B v m w) : RowZ W mo er B w.heap.size v m w := by
  rcases h with ⟨rfl, rfl⟩ | ⟨g, cap, L, rfl, h⟩
  · exact ⟨none, 0, rfl, .inl rfl⟩
  · have at_ : ∀ i o, i < m → o < W → i * W + o < cap * W := fun i o hi ho => by
      have h1 : (i + 1) * W ≤ cap * W := Nat.mul_le_mul_right _ (Nat.le_trans hi h.le)
      rw [Nat.succ_mul] at h1
      omega
    refine ⟨_, cap, rfl, .inr ⟨g, rfl, h.base, h.lt, fun i hi => ?_, fun o ho i hi => ?_⟩⟩
    · obtain ⟨u, h1, h2⟩ := h.meta_ i hi
      exact ⟨u, h.cells _ _ h1, h2⟩
    · obtain ⟨z, hz⟩ := h.err o ho i hi
      exact ⟨⟨z, h.cells _ _ hz⟩, (h.spare _ (at_ i o hi (her o ho))).2⟩
theorem RowH.below {W mo : Nat} {er : Option Nat} {B H g m : Nat} {w w' : World} (h : RowH W mo er B H g m w) (hb : Below H w w') (hH : H ≤ w.heap.size) : RowH W mo er B H g m w' := by
  have hc : ∀ b o, b < H → w'.cell? ⟨b, o, none⟩ = w.cell? ⟨b, o, none⟩ := fun b o h => cell_block (hb.block b h)
  have hf : ∀ b o, b < H → w'.frozen? ⟨b, o, none⟩ = w.frozen? ⟨b, o, none⟩ := fun b o h => World.frozen?_of_block (a := ⟨b, o, none⟩) (hb.block b h)
  refine ⟨h.base, h.lt, fun i hi => ?_, fun o ho i hi => ?_⟩
  · obtain ⟨u, h1, h2⟩ := h.meta_ i hi
    exact ⟨u, (hc _ _ h.lt).trans h1, h2.keep (fun gi o hg h => by rw [hc gi o hg]; exact h) hf⟩
  · rw [hc _ _ h.lt, hf _ _ h.lt]
    exact h.err o ho i hi
theorem RowH.touch {W mo : Nat} {er : Option Nat} {B H g m B' H' : Nat} {w w' : World} (h : RowH W mo er B H g m w) (ht : Touch B' H' w w') (hd : H' ≤ B) : RowH W mo er B H g m w' := by
  have hB := h.base
  refine ⟨h.base, h.lt, fun i hi => ?_, fun o ho i hi => ?_⟩
  · obtain ⟨u, h1, h2⟩ := h.meta_ i hi
    exact ⟨u, (ht.cell (.inr (by omega))).trans h1, h2.keep (fun gi o _ h => ht.some_ _ h) (fun gi o _ => ht.frozen _)⟩
  · rw [ht.cell (.inr (by omega)), ht.frozen]
    exact h.err o ho i hi
theorem RowY.below {W mo : Nat} {er : Option Nat} {B H m : Nat} {a : Option Addr} {w w' : World} (h : RowY W mo er B H a m w) (hb : Below H w w') (hH : H ≤ w.heap.size) : RowY W mo er B H a m w' :=
  h.imp id fun ⟨g, e, h⟩ => ⟨g, e, h.below hb hH⟩
theorem RowY.touch {W mo : Nat} {er : Option Nat} {B H m B' H' : Nat} {a : Option Addr} {w w' : World} (h : RowY W mo er B H a m w) (ht : Touch B' H' w w') (hd : H' ≤ B) : RowY W mo er B H a m w' :=
  h.imp id fun ⟨g, e, h⟩ => ⟨g, e, h.touch ht hd⟩
/-- A cell outside the row's own block is written. -/
theorem RowH.setMeta {W mo : Nat} {er : Option Nat} {B H g m b o : Nat} {w : World} (h : RowH W mo er B H g m w) (hb : b ≠ g) (v : Value) : RowH W mo er B H g m (w.setCell ⟨b, o, none⟩ v) := by
  have ht := touch_set (B := b) (H := b + 1) (o := o) w v (Nat.le_refl _) (Nat.lt_succ_self _)
  refine ⟨h.base, h.lt, fun i hi => ?_, fun p hp i hi => ?_⟩
  · obtain ⟨u, h1, h2⟩ := h.meta_ i hi
    exact ⟨u, (cell_set_ne (.inl (Ne.symm hb))).trans h1, h2.keep (fun gi o _ h => ht.some_ _ h) (fun gi o _ => ht.frozen _)⟩
  · rw [cell_set_ne (.inl (Ne.symm hb)), ht.frozen]
    exact h.err p hp i hi
theorem RowH.setErr {W mo : Nat} {er : Option Nat} {B H g m o k : Nat} {w : World} (h : RowH W mo er B H g m w) (ho : o < W) (hmo : mo < W) (hne : o ≠ mo) (he : ∀ p, er = some p → p = o) (hk : k < m) (her : er = some o) (z : Int) : RowH W mo er B H g m (w.setCell ⟨g, k * W + o, none⟩ (.int .i64 z)) := by
  have ht := touch_set (B := g) (H := g + 1) (o := k * W + o) w (.int .i64 z) (Nat.le_refl _) (Nat.lt_succ_self _)
  refine ⟨h.base, h.lt, fun i hi => ?_, fun p hp i hi => ?_⟩
  · obtain ⟨u, h1, h2⟩ := h.meta_ i hi
    refine ⟨u, (cell_set_ne (.inr fun e => hne ?_)).trans h1, h2.keep (fun gi o _ h => ht.some_ _ h) (fun gi o _ => ht.frozen _)⟩
    have a1 : (i * W + mo) % W = mo := by rw [Nat.mul_comm, Nat.mul_add_mod, Nat.mod_eq_of_lt hmo]
    have a2 : (k * W + o) % W = o := by rw [Nat.mul_comm, Nat.mul_add_mod, Nat.mod_eq_of_lt ho]
    rw [e] at a1
    omega
  · obtain rfl := he p hp
    obtain ⟨⟨y, hy⟩, hz⟩ := h.err p hp i hi
    refine ⟨?_, by rw [ht.frozen]; exact hz⟩
    by_cases e : i * W + p = k * W + p
    · rw [e]
      have hs := (h.err p hp k hk).1
      exact ⟨z, cell_set_eq (by obtain ⟨q, hq⟩ := hs; rw [hq]; rfl)⟩
    · exact ⟨y, (cell_set_ne (.inr e)).trans hy⟩

end Go.Proofs.Ytdoilggfajngiaa
