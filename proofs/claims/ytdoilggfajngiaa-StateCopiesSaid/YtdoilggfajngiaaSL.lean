/-
  States: what the laws' functions come to.
-/
import Derived.Test.YtdoilggfajngiaaSB
import Derived.Test.YtdoilggfajngiaaSG
namespace Go.Proofs.Ytdoilggfajngiaa
open Go VE

theorem fits_bareS {l : List (El TPair)} (h : fits (.sl TPair) l = true) {a : Int} {b : Int} {c : Int} {s t : ByteArray} (hs : fits .str s = true) (ht : fits .str t = true) : fits THost (a, s, b, t, c, l) = true :=
  fits_mk (a := .int .i64) rfl (fits_mk hs (fits_mk (a := .int .i64) rfl (fits_mk ht (fits_mk (a := .int .i64) rfl h))))
theorem fits_st {h : El THost} (hh : fits THost h = true) (s : El (.prod TQ (.prod (.int .i64) (.prod TBk (.prod TQ (.prod .bool (.prod (.int .i64) (.prod (.int .i64) (.int .i64))))))))) : fits TStatus (h, s) = true :=
  fits_mk hh rfl
theorem fits_new {h : El THost} (hh : fits THost h = true) (n : Int) : fits TStatus (newB h n) = true := fits_st hh _
theorem fits_one {s : El TStatus} (hs : fits TStatus s = true) : fits (.sl TStatus) [s] = true :=
  fits_sl (by show 1 * 200 ≤ _; simp [reachBytes]) fun e he => by rw [List.mem_singleton] at he; subst he; exact hs
theorem fits_filter {p : El TStatus → Bool} {l : List (El TStatus)} (h : fits (.sl TStatus) l = true) : fits (.sl TStatus) (l.filter p) = true :=
  fits_sl (by
    have h1 := fits_len h
    have h2 := List.length_filter_le p l
    exact Nat.le_trans (Nat.mul_le_mul_right _ h2) h1) fun e he => fits_mem h (List.mem_filter.1 he).1

theorem pairEq_self (p : El TPair) : pairEq p p = true := by simp [pairEq]
theorem samePs_self : ∀ (l : List (El TPair)), samePs l l = true
  | [] => rfl
  | a :: l => by rw [samePs, pairEq_self, samePs_self l]; rfl
theorem sameB_self (h : El THost) : sameB h h = true := by simp [sameB, samePs_self]
theorem sameOB_self (s : El TStatus) : sameOB s s = true := by simp [sameOB, sameB_self, eqQ, eqBk]
theorem sameSB_self (l : List (El TStatus)) : sameSB l l = true := by
  unfold sameSB
  rw [dec_t rfl, anyN_false.2 (fun i _ _ => by simp [sameOB_self])]
  rfl
theorem sameHB_self (l : List (El THost)) : sameHB l l = true := by
  unfold sameHB
  rw [dec_t rfl, anyN_false.2 (fun i _ _ => by simp [sameB_self])]
  rfl

theorem awakeS_ok : awakeS.OK := awakeS.mk (newS_ok.cons' (free_ok.cons' (outs_ok.cons' (members_ok.cons' (mayS_ok.cons' (find_ok.cons' SpecsOK.nil)))))) fun _ _ => ⟨1, by
  rw [awakeS.start]
  kernel_rfl⟩

/-! ### a new one -/

theorem new_may (h : El THost) (n : Int) : maySB [newB h n] = mayB h := by
  have hb : badAt [newB h n] 0 = !mayB h := by
    unfold badAt mayOneB
    show (!(mayB h && _) || _) = _
    have ht : isTimeB (timeI n) = true := by
      unfold isTimeB timeI
      split
      · rfl
      · split
        · rw [dec_t (by omega), dec_t (by omega)]; rfl
        · rfl
    have hr : (newB h n) = (h, (true, 0, 0, 0), 0, (0, 0), (false, 0, 0, 0), false, 0, timeI n, 0) := rfl
    have e0 : rdEl TStatus [newB h n] 0 = newB h n := rfl
    rw [e0, hr]
    simp only [sProb, sDrains, sOut, sErr, sAct, sBk, sGone, sSince, ht]
    cases mayB h <;> rfl
  unfold maySB
  show (!(badAt [newB h n] 0 || false) && _) = _
  rw [hb]
  cases mayB h <;> rfl

theorem lNew_R : lNew.Law := fun h n hx => by
  have hh : fits THost h = true := by simpa [lNew.pre] using (Bool.and_eq_true _ _ ▸ hx).1
  refine lNew.ret (light_ok.cons' (awakeS_ok.cons' (newS_ok.cons' (free_ok.cons' (mayS_ok.cons' (mayR_ok.cons' SpecsOK.nil)))))) h n (m := 1) ?_
  have a1 : newS.pre (h, n, ()) = true := by
    show (fits THost h && _) = true
    rw [hh]; rfl
  rw [lNew.start, test_true (by simpa [light.pre] using hh), test_true a1, test_true (by simpa [free.pre] using fits_new hh n), test_true (by simpa [mayS.pre] using fits_one (fits_new hh n)), test_true (by simpa [mayR.pre] using hh), new_may, beq_self_eq_true]
  have e : (newB h n).2.2.2.2.2.2.2.1 = timeI n := rfl
  rw [e]
  have h1 : timeI n ≥ 0 := by unfold timeI; split <;> first | omega | (split <;> omega)
  have h2 : timeI n ≤ 4611686018427387904 := by unfold timeI; split <;> first | omega | (split <;> omega)
  rw [cond_dt h1, cond_dt h2]
  cases decide (lightI h > 0) <;> rfl

/-! ### who is free -/

def up1 (a : Nat × Nat) (s : El TStatus) : Nat × Nat := (if freeB s then a.1 + 1 else a.1, if memB s then a.2 else a.2 + 1)
def up2 (o : Nat) (s : El TStatus) : Nat := if (sOut s).1 then o + 1 else o

theorem fold1 : ∀ (l : List (El TStatus)) (a : Nat × Nat), foldL up1 l a = (a.1 + (l.filter freeB).length, a.2 + (l.filter fun s => !memB s).length)
  | [], a => rfl
  | s :: l, a => by
    rw [foldL, fold1 l, List.filter_cons, List.filter_cons]
    unfold up1
    cases freeB s <;> cases memB s <;> simp <;> omega
theorem fold2 : ∀ (l : List (El TStatus)) (o : Nat), (∀ s, s ∈ l → memB s = true) → foldL up2 l o = o + (l.filter outB).length
  | [], o, _ => rfl
  | s :: l, o, h => by
    rw [foldL, fold2 l _ (fun s hs => h s (List.mem_cons_of_mem _ hs)), List.filter_cons]
    have h1 := h s (List.mem_cons_self ..)
    have h2 : outB s = (memB s && (sOut s).1) := rfl
    rw [h2, h1]
    unfold up2
    cases (sOut s).1 <;> simp <;> omega

theorem step1 (l m0 : List (El TStatus)) (hb : l.length < 9223372036854775806) (hl : fits (.sl TStatus) l = true) (m k : Nat) (a : Nat × Nat) (hk : k < l.length) (ha : a.1 ≤ k ∧ a.2 ≤ k) :
    lFree.l1 (m + 1) l m0 (a.1 : Int) (a.2 : Int) 0 l l.length (k : Int) = lFree.l1 m l m0 ((up1 a (rdEl TStatus l k)).1 : Int) ((up1 a (rdEl TStatus l k)).2 : Int) 0 l l.length ((k + 1 : Nat) : Int) := by
  have hp : free.pre (rdEl TStatus l k, ()) = true := by simpa [free.pre] using fits_rd hl hk
  rw [lFree.s1, cond_dt (by omega), test_d (by omega), test_d (by omega), toNat_cast, w64s (k := k) (by omega), w64s (k := a.1) (by omega), w64s (k := a.2) (by omega), test_true hp, test_true hp]
  have hfb : freeB (rdEl TStatus l k) = (!(rdEl TStatus l k).2.2.2.2.2.1 && (wellB (rdEl TStatus l k).2.1 && !(rdEl TStatus l k).2.2.2.2.1.1)) := rfl
  have hmb : memB (rdEl TStatus l k) = !(rdEl TStatus l k).2.2.2.2.2.1 := rfl
  unfold up1
  rw [hmb, hfb]
  cases h1 : (rdEl TStatus l k).2.2.2.2.2.1 <;> cases h2 : (rdEl TStatus l k).2.2.2.2.1.1 <;> cases h3 : wellB (rdEl TStatus l k).2.1 <;>
    simp only [Bool.not_true, Bool.not_false, Bool.and_true, Bool.and_false, Bool.true_and, Bool.false_and, cond_true, cond_false, if_true, if_false, Bool.false_eq_true]

theorem step2 (l m0 : List (El TStatus)) (f dr : Int) (hb : m0.length < 9223372036854775806) (hm : ∀ s, s ∈ m0 → memB s = true) (m k o : Nat) (hk : k < m0.length) (ho : o ≤ k) :
    lFree.l2 (m + 1) l m0 f dr (o : Int) m0 m0.length (k : Int) = lFree.l2 m l m0 f dr ((up2 o (rdEl TStatus m0 k) : Nat) : Int) m0 m0.length ((k + 1 : Nat) : Int) := by
  rw [lFree.s2, cond_dt (by omega), test_d (by omega), test_d (by omega), toNat_cast, w64s (k := k) (by omega), w64s (k := o) (by omega)]
  have h1 : (rdEl TStatus m0 k).2.2.2.2.2.1 = false := by
    have := hm _ (rdEl_mem hk)
    simpa [memB] using this
  unfold up2 sOut
  rw [h1]
  cases (rdEl TStatus m0 k).2.2.2.2.1.1 <;> simp only [cond_true, cond_false, if_true, if_false, Bool.false_eq_true]

theorem len_split (l : List (El TStatus)) (p : El TStatus → Bool) : (l.filter p).length + (l.filter fun s => !p s).length = l.length := by
  induction l with
  | nil => rfl
  | cons a l ih =>
    rw [List.filter_cons, List.filter_cons]
    cases p a <;> simp <;> omega

theorem free_out (l : List (El TStatus)) : (l.filter freeB).length + (l.filter outB).length ≤ (l.filter memB).length := by
  induction l with
  | nil => exact Nat.le_refl _
  | cons a l ih =>
    rw [List.filter_cons, List.filter_cons, List.filter_cons]
    have h1 : freeB a = (memB a && (wellB (sProb a) && !(sOut a).1)) := rfl
    have h2 : outB a = (memB a && (sOut a).1) := rfl
    rw [h1, h2]
    cases memB a <;> cases (sOut a).1 <;> cases wellB (sProb a) <;> simp <;> omega

theorem lFree_end (l : List (El TStatus)) (hl : fits (.sl TStatus) l = true) (f dr o : Int) (h1 : f = ((l.filter freeB).length : Nat)) (h2 : dr = ((l.filter fun s => !memB s).length : Nat)) (h3 : o = ((l.filter outB).length : Nat)) :
    lFree.l2 1 l (l.filter memB) f dr o (l.filter memB) (l.filter memB).length ((l.filter memB).length : Int) = some (vb true, []) := by
  have hb := stat_len hl
  have hr := reach_lt
  have hm := fits_filter (p := memB) hl
  have hml := List.length_filter_le memB l
  have e1 := len_split l memB
  have e2 := free_out l
  have e3 : (l.filter memB).filter outB = l.filter outB := by
    rw [List.filter_filter]
    congr 1
    funext s
    have h1 : outB s = (memB s && (sOut s).1) := rfl
    rw [h1]
    cases memB s <;> simp
  have e4 : (l.filter memB).filter memB = l.filter memB := by
    rw [List.filter_filter]
    congr 1
    funext s
    simp
  rw [lFree.s2, cond_df (by omega), w64 (by omega) (by omega), cond_et (by omega), w64 (by omega) (by omega), cond_dt (by omega), test_true (by simpa [outs.pre] using hl), h3, beq_self_eq_true, test_true (by simpa [outs.pre] using hm), e3, beq_self_eq_true,
    test_true (by simpa [members.pre] using hm), e4, test_true (by simpa [sameSR.pre] using hm), sameSB_self]
  rfl

theorem lFree_two (l : List (El TStatus)) (hl : fits (.sl TStatus) l = true) (f dr : Int) (h1 : f = ((l.filter freeB).length : Nat)) (h2 : dr = ((l.filter fun s => !memB s).length : Nat)) :
    lFree.l2 ((l.filter memB).length + 1) l (l.filter memB) f dr 0 (l.filter memB) (l.filter memB).length 0 = some (vb true, []) := by
  have hb := stat_len hl
  have hr := reach_lt
  have hml := List.length_filter_le memB l
  have hm : ∀ s, s ∈ l.filter memB → memB s = true := fun s hs => (List.mem_filter.1 hs).2
  have e3 : (l.filter memB).filter outB = l.filter outB := by
    rw [List.filter_filter]
    congr 1
    funext s
    have h1 : outB s = (memB s && (sOut s).1) := rfl
    rw [h1]
    cases memB s <;> simp
  have key : ∀ (n k o : Nat), (l.filter memB).length = k + n → o ≤ k → lFree.l2 (n + 1) l (l.filter memB) f dr (o : Int) (l.filter memB) (l.filter memB).length (k : Int) = lFree.l2 1 l (l.filter memB) f dr ((foldL up2 ((l.filter memB).drop k) o : Nat) : Int) (l.filter memB) (l.filter memB).length ((l.filter memB).length : Int) := by
    intro n
    induction n with
    | zero =>
      intro k o hk ho
      have : (l.filter memB).drop k = [] := List.drop_eq_nil_of_le (by omega)
      rw [this, foldL]
      have : k = (l.filter memB).length := by omega
      rw [this]
    | succ n ih =>
      intro k o hk ho
      rw [step2 l (l.filter memB) f dr (by omega) hm (n + 1) k o (by omega) ho, ih (k + 1) _ (by omega) (by unfold up2; split <;> omega), rdEl_drop (l.filter memB) (by omega : k < (l.filter memB).length), foldL]
  refine (key (l.filter memB).length 0 0 (by omega) (Nat.le_refl _)).trans ?_
  exact lFree_end l hl f dr _ h1 h2 (by rw [List.drop_zero, fold2 _ _ hm, Nat.zero_add, e3])

theorem lFree_R : lFree.Law := fun l hx => by
  have hl : fits (.sl TStatus) l = true := by simpa [lFree.pre] using hx
  have hb := stat_len hl
  have hr := reach_lt
  refine lFree.ret (lightS16_ok.cons' (awakeS_ok.cons' (members_ok.cons' (free_ok.cons' (outs_ok.cons' (sameSR_ok.cons' SpecsOK.nil)))))) l (m := (l.length + 1 + ((l.filter memB).length + 1)) + 1) ?_
  have key : lFree.l1 (l.length + 1 + ((l.filter memB).length + 1)) l (l.filter memB) 0 0 0 l l.length 0 = some (vb true, []) := by
    have h1 := loop_acc (t := TStatus) l (fun m (a : Nat × Nat) k => lFree.l1 m l (l.filter memB) (a.1 : Int) (a.2 : Int) 0 l l.length k) (fun d a => lFree.l2 d l (l.filter memB) (a.1 : Int) (a.2 : Int) 0 (l.filter memB) (l.filter memB).length 0) up1 (fun k a => a.1 ≤ k ∧ a.2 ≤ k)
      (fun k a hk ha => by unfold up1; constructor <;> (simp only; split <;> omega)) (fun m k a hk ha => step1 l (l.filter memB) (by omega) hl m k a hk ha) (fun d a => by rw [lFree.s1, cond_df (by omega)]) ((l.filter memB).length + 1) l.length 0 (0, 0) (by omega) ⟨Nat.le_refl _, Nat.le_refl _⟩
    refine h1.trans ?_
    exact lFree_two l hl _ _ (by rw [List.drop_zero, fold1]; simp) (by rw [List.drop_zero, fold1]; simp)
  rw [lFree.start, test_true (by simpa [lightS16.pre] using hl), test_true (by simpa [members.pre] using hl), key]
  cases decide (lightL l > 0) <;> rfl

end Go.Proofs.Ytdoilggfajngiaa
