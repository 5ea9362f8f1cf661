/-
  States: what the laws' functions come to.
-/
import Derived.Test.YtemkgdkkpeijfaaSB
namespace Go.Proofs.Ytemkgdkkpeijfaa
open Go VE

theorem fits_bareS {l : List (El TPair)} (h : fits (.sl TPair) l = true) {a : Int} {b : Int} {c : Int} {s t : ByteArray} (hs : fits .str s = true) (ht : fits .str t = true) : fits THost (a, s, b, t, c, l) = true :=
  fits_mk (a := .int .i64) rfl (fits_mk hs (fits_mk (a := .int .i64) rfl (fits_mk ht (fits_mk (a := .int .i64) rfl h))))
theorem fits_st {h : El THost} (hh : fits THost h = true) (s : El (.prod TQ (.prod (.int .i64) (.prod TBk (.prod TQ (.prod .bool (.prod (.int .i64) (.prod (.int .i64) (.int .i64))))))))) : fits TStatus (h, s) = true :=
  fits_mk hh rfl
theorem fits_new {h : El THost} (hh : fits THost h = true) (n : Int) : fits TStatus (newB h n) = true := fits_st hh _
theorem fits_one {s : El TStatus} (hs : fits TStatus s = true) : fits (.sl TStatus) [s] = true :=
  fits_sl (by show 1 * 200 ≤ _; simp [reachBytes]) fun e he => by rw [List.mem_singleton] at he; subst he; exact hs
theorem fits_filter {p : El TStatus → Bool} {l : List (El TStatus)} (h : fits (.sl TStatus) l = true) : fits (.sl TStatus) (l.filter p) = true :=
  fits_sl (by
    have h1 := fits_len h
    have h2 := List.length_filter_le p l
    exact Nat.le_trans (Nat.mul_le_mul_right _ h2) h1) fun e he => fits_mem h (List.mem_filter.1 he).1

theorem pairEq_self (p : El TPair) : pairEq p p = true := by simp [pairEq]
theorem samePs_self : ∀ (l : List (El TPair)), samePs l l = true
  | [] => rfl
  | a :: l => by rw [samePs, pairEq_self, samePs_self l]; rfl
theorem sameB_self (h : El THost) : sameB h h = true := by simp [sameB, samePs_self]
theorem sameOB_self (s : El TStatus) : sameOB s s = true := by simp [sameOB, sameB_self, eqQ, eqBk]
theorem sameSB_self (l : List (El TStatus)) : sameSB l l = true := by
  unfold sameSB
  rw [dec_t rfl, anyN_false.2 (fun i _ _ => by simp [sameOB_self])]
  rfl
theorem sameHB_self (l : List (El THost)) : sameHB l l = true := by
  unfold sameHB
  rw [dec_t rfl, anyN_false.2 (fun i _ _ => by simp [sameB_self])]
  rfl

/-! ### a new one -/

theorem new_may (h : El THost) (n : Int) : maySB [newB h n] = mayB h := by
  have hb : badAt [newB h n] 0 = !mayB h := by
    unfold badAt mayOneB
    show (!(mayB h && _) || _) = _
    have ht : isTimeB (timeI n) = true := by
      unfold isTimeB timeI
      split
      · rfl
      · split
        · rw [dec_t (by omega), dec_t (by omega)]; rfl
        · rfl
    have hr : (newB h n) = (h, (true, 0, 0, 0), 0, (0, 0), (false, 0, 0, 0), false, 0, timeI n, 0) := rfl
    have e0 : rdEl TStatus [newB h n] 0 = newB h n := rfl
    rw [e0, hr]
    simp only [sProb, sDrains, sOut, sErr, sAct, sBk, sGone, sSince, ht]
    cases mayB h <;> rfl
  unfold maySB
  show (!(badAt [newB h n] 0 || false) && _) = _
  rw [hb]
  cases mayB h <;> rfl

/-! ### who is free -/

def up1 (a : Nat × Nat) (s : El TStatus) : Nat × Nat := (if freeB s then a.1 + 1 else a.1, if memB s then a.2 else a.2 + 1)
def up2 (o : Nat) (s : El TStatus) : Nat := if (sOut s).1 then o + 1 else o

theorem fold1 : ∀ (l : List (El TStatus)) (a : Nat × Nat), foldL up1 l a = (a.1 + (l.filter freeB).length, a.2 + (l.filter fun s => !memB s).length)
  | [], a => rfl
  | s :: l, a => by
    rw [foldL, fold1 l, List.filter_cons, List.filter_cons]
    unfold up1
    cases freeB s <;> cases memB s <;> simp <;> omega
theorem fold2 : ∀ (l : List (El TStatus)) (o : Nat), (∀ s, s ∈ l → memB s = true) → foldL up2 l o = o + (l.filter outB).length
  | [], o, _ => rfl
  | s :: l, o, h => by
    rw [foldL, fold2 l _ (fun s hs => h s (List.mem_cons_of_mem _ hs)), List.filter_cons]
    have h1 := h s (List.mem_cons_self ..)
    have h2 : outB s = (memB s && (sOut s).1) := rfl
    rw [h2, h1]
    unfold up2
    cases (sOut s).1 <;> simp <;> omega

theorem len_split (l : List (El TStatus)) (p : El TStatus → Bool) : (l.filter p).length + (l.filter fun s => !p s).length = l.length := by
  induction l with
  | nil => rfl
  | cons a l ih =>
    rw [List.filter_cons, List.filter_cons]
    cases p a <;> simp <;> omega

theorem free_out (l : List (El TStatus)) : (l.filter freeB).length + (l.filter outB).length ≤ (l.filter memB).length := by
  induction l with
  | nil => exact Nat.le_refl _
  | cons a l ih =>
    rw [List.filter_cons, List.filter_cons, List.filter_cons]
    have h1 : freeB a = (memB a && (wellB (sProb a) && !(sOut a).1)) := rfl
    have h2 : outB a = (memB a && (sOut a).1) := rfl
    rw [h1, h2]
    cases memB a <;> cases (sOut a).1 <;> cases wellB (sProb a) <;> simp <;> omega

end Go.Proofs.Ytemkgdkkpeijfaa
