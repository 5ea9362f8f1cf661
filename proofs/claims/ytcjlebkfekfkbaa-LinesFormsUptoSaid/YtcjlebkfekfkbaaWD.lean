/-
  Lines and words, as lists of bytes.
-/
import Derived.Test.YtcjlebkfekfkbaaWC
namespace Go.Proofs.Ytcjlebkfekfkbaa
open Go VE

abbrev bs (s : ByteArray) : List UInt8 := s.data.toList
def mk (l : List UInt8) : ByteArray := ⟨l.toArray⟩
theorem mk_bs (s : ByteArray) : mk (bs s) = s := by
  cases s; simp [mk]
theorem bs_mk (l : List UInt8) : bs (mk l) = l := by simp [mk]
theorem bs_append (a b : ByteArray) : bs (a ++ b) = bs a ++ bs b := ByteArray.toList_data_append
theorem mk_append (a b : List UInt8) : mk a ++ mk b = mk (a ++ b) := by
  rw [← mk_bs (mk a ++ mk b), bs_append, bs_mk, bs_mk]
theorem bs_length (s : ByteArray) : (bs s).length = s.size := by simp
theorem mk_size (l : List UInt8) : (mk l).size = l.length := by rw [← bs_length, bs_mk]
theorem bs_extract (s : ByteArray) (a b : Nat) : bs (s.extract a b) = ((bs s).take b).drop a := by
  show (s.extract a b).data.toList = _
  rw [ByteArray.data_extract, Array.toList_extract, List.extract_eq_take_drop, List.drop_take]
theorem toList_bs (s : ByteArray) : ByteArray.toList s = bs s := ByteArray.toList_eq s
theorem byteAt_bs (s : ByteArray) (i : Nat) : byteAt s (i : Int) = (((bs s).getD i 0).toNat : Int) := by
  unfold byteAt
  rw [toNat_cast]

/-- A text's parts. -/
def spl (c : Int) : List UInt8 → List (List UInt8)
  | [] => [[]]
  | b :: l => if (b.toNat : Int) = c then [] :: spl c l else (match spl c l with | x :: r => (b :: x) :: r | [] => [[b]])

theorem spl_cons (c : Int) : ∀ l, ∃ x r, spl c l = x :: r
  | [] => ⟨[], [], rfl⟩
  | b :: l => by
    obtain ⟨x, r, h⟩ := spl_cons c l
    unfold spl
    split
    · exact ⟨_, _, rfl⟩
    · rw [h]; exact ⟨_, _, rfl⟩
theorem spl_sep {c : Int} {b : UInt8} {l : List UInt8} (h : (b.toNat : Int) = c) : spl c (b :: l) = [] :: spl c l := by rw [spl, if_pos h]
theorem spl_on {c : Int} {b : UInt8} {l x : List UInt8} {r : List (List UInt8)} (h : ¬ (b.toNat : Int) = c) (hs : spl c l = x :: r) : spl c (b :: l) = (b :: x) :: r := by rw [spl, if_neg h, hs]

/-- A piece without the separator goes ahead of the first part. -/
theorem spl_front {c : Int} : ∀ {a l x : List UInt8} {r : List (List UInt8)}, (∀ b ∈ a, ¬ (b.toNat : Int) = c) → spl c l = x :: r → spl c (a ++ l) = (a ++ x) :: r
  | [], l, x, r, _, h => h
  | b :: a, l, x, r, hb, h => spl_on (hb b (List.mem_cons_self ..)) (spl_front (fun z hz => hb z (List.mem_cons_of_mem _ hz)) h)
theorem spl_none {c : Int} {a : List UInt8} (h : ∀ b ∈ a, ¬ (b.toNat : Int) = c) : spl c a = [a] := by
  have := spl_front (l := []) h (show spl c [] = [] :: [] from rfl)
  simpa using this
theorem spl_app {c : Int} {a l : List UInt8} {b : UInt8} (h : ∀ b ∈ a, ¬ (b.toNat : Int) = c) (hb : (b.toNat : Int) = c) : spl c (a ++ b :: l) = a :: spl c l := by
  have := spl_front (l := b :: l) h (spl_sep hb)
  simpa using this

theorem runs_spl {s : ByteArray} {c : Int} : ∀ (r i a n : Nat) (x : List UInt8) (t : List (List UInt8)), i + r = s.size → a ≤ i → spl c ((bs s).drop i) = x :: t →
    (runs s c r i a n).map (fun v => bs v.2) = (((bs s).take i).drop a ++ x) :: t
  | 0, i, a, n, x, t, hi, ha, h => by
    have hl := bs_length s
    rw [List.drop_eq_nil_of_le (by omega)] at h
    cases h
    show [bs (s.extract a s.size)] = _
    rw [bs_extract, List.append_nil, show s.size = i by omega]
  | r + 1, i, a, n, x, t, hi, ha, h => by
    have hl := bs_length s
    have hlt : i < (bs s).length := by omega
    have hd : (bs s).drop i = (bs s)[i] :: (bs s).drop (i + 1) := List.drop_eq_getElem_cons hlt
    have hb : byteAt s (i : Int) = (((bs s)[i]).toNat : Int) := by rw [byteAt_bs, List.getD_eq_getElem?_getD, List.getElem?_eq_getElem hlt]; rfl
    rw [hd] at h
    obtain ⟨y, t', hy⟩ := spl_cons c ((bs s).drop (i + 1))
    unfold runs
    by_cases hc : byteAt s (i : Int) = c
    · rw [if_pos hc, List.map_cons]
      rw [spl_sep (by rw [← hb]; exact hc), hy] at h
      obtain ⟨rfl, rfl⟩ := List.cons.inj h
      have ih := runs_spl (s := s) (c := c) r (i + 1) (i + 1) (n + 1) y t' (by omega) (Nat.le_refl _) hy
      rw [ih, bs_extract]
      have : ((bs s).take (i + 1)).drop (i + 1) = [] := List.drop_eq_nil_of_le (by rw [List.length_take]; omega)
      rw [this]; simp
    · rw [if_neg hc]
      rw [spl_on (by rw [← hb]; exact hc) hy] at h
      obtain ⟨rfl, rfl⟩ := List.cons.inj h
      have ih := runs_spl (s := s) (c := c) r (i + 1) a n y t' (by omega) (by omega) hy
      rw [ih]
      have : ((bs s).take (i + 1)).drop a = ((bs s).take i).drop a ++ [(bs s)[i]] := by
        rw [List.take_add_one, List.getElem?_eq_getElem hlt, List.drop_append_of_le_length (by rw [List.length_take]; omega)]
        rfl
      rw [this, List.append_assoc]; rfl

theorem partsL_eq (s : ByteArray) (c : Int) : partsL s c = (spl c (bs s)).map mk := by
  obtain ⟨x, t, h⟩ := spl_cons c (bs s)
  have := runs_spl (s := s) (c := c) s.size 0 0 0 x t (by omega) (Nat.le_refl _) (by simpa using h)
  have e : (partsL s c).map bs = spl c (bs s) := by
    unfold partsL runsL
    rw [List.map_map, h]
    refine Eq.trans ?_ (this.trans (by simp))
    rfl
  rw [← e, List.map_map]
  have : (mk ∘ bs) = id := by funext z; exact mk_bs z
  rw [this, List.map_id]

/-! ### words -/

theorem idxN_take (c : UInt8) : ∀ l : List UInt8, l.take (idxN c l) = l.takeWhile (· != c)
  | [] => rfl
  | b :: l => by
    unfold idxN
    by_cases h : b = c
    · rw [if_pos h]; simp [h]
    · have : (b != c) = true := by simpa using h
      rw [if_neg h, List.takeWhile_cons, this, List.take_succ_cons, idxN_take c l]; rfl
theorem bs_cutA (s : ByteArray) : bs (cutA s) = (bs s).takeWhile (· != 35) := by
  unfold cutA hashAt
  rw [bs_extract, List.drop_zero, idxN_take]

/-- A line's words. -/
def wl (l : List UInt8) : List (List UInt8) := (spl 32 (l.takeWhile (· != 35))).filter fun x => !x.isEmpty
theorem wordsL_eq (s : ByteArray) : wordsL s = (wl (bs s)).map mk := by
  unfold wordsL wl
  rw [partsL_eq, bs_cutA, List.filter_map]
  congr 1
  congr 1
  funext x
  show (!(ByteArray.toList (mk x) == ByteArray.toList (⟨#[]⟩ : ByteArray))) = !x.isEmpty
  rw [toList_bs, toList_bs, bs_mk]
  cases x <;> rfl

def okB (b : UInt8) : Bool := decide (32 ≤ (b.toNat : Int)) && decide ((b.toNat : Int) ≤ 126)
/-- May a line be? -/
def ml (l : List UInt8) : Bool := l.all okB && decide (l.length ≤ 200)

theorem allB_eq {p : Int → Bool} {s : ByteArray} : ∀ (r i : Nat), i + r = s.size → allB p s r i = ((bs s).drop i).all fun b => p (b.toNat : Int)
  | 0, i, h => by
    have hl := bs_length s
    rw [List.drop_eq_nil_of_le (by omega)]; rfl
  | r + 1, i, h => by
    have hl := bs_length s
    have hlt : i < (bs s).length := by omega
    have hb : byteAt s (i : Int) = (((bs s)[i]).toNat : Int) := by rw [byteAt_bs, List.getD_eq_getElem?_getD, List.getElem?_eq_getElem hlt]; rfl
    unfold allB
    rw [allB_eq r (i + 1) (by omega), List.drop_eq_getElem_cons hlt, List.all_cons, hb]
theorem mayB_eq (s : ByteArray) : mayB s = ml (bs s) := by
  unfold mayB ml
  rw [allB_eq s.size 0 (by omega), List.drop_zero, bs_length]
  rfl

/-- A text's lines. -/
def sg : List (List UInt8) → Nat → List Ln → List Ln × Int × Int
  | [], _, out => (out, 0, 0)
  | x :: l, i, out => if ml x then sg l (i + 1) (if (wl x).length = 0 then out else out ++ [((i : Int) + 1, (wl x).map mk)]) else ([], (i : Int) + 1, 2)
theorem splitG_eq : ∀ (l : List (List UInt8)) (i : Nat) (out : List Ln), splitG (l.map mk) i out = sg l i out
  | [], i, out => rfl
  | x :: l, i, out => by
    have e1 : mayB (mk x) = ml x := by rw [mayB_eq, bs_mk]
    have e2 : wordsL (mk x) = (wl x).map mk := by rw [wordsL_eq, bs_mk]
    rw [List.map_cons, splitG, e1, e2, List.length_map, splitG_eq l (i + 1)]
    rfl
theorem splitL_eq {s : ByteArray} (h : s.size ≤ 4000) : splitL s = sg (spl 10 (bs s)) 0 [] := by
  unfold splitL
  rw [if_neg (by omega), partsL_eq, splitG_eq]

end Go.Proofs.Ytcjlebkfekfkbaa
