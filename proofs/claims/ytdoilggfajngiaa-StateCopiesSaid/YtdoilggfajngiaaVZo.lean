/-
  Contracts over typed arguments, where boxes are handed over and back.
-/
import Derived.Test.YtdoilggfajngiaaVZ
namespace Go.Proofs.Ytdoilggfajngiaa.VE
open Go Go.RowKit

/-- The name of an argument's box; of its cells' boxes. -/
def oid (p : Nat) : Nat := canon (800 + p) 63
def rid (i : Nat) : Nat := canon (900 + i) 63
def cid (name j : Nat) : Nat := canon (1000 + name) j

/-- Cells of which some are slices that are one's own. -/
def encCells (name : Nat) : Nat → List (Option Nat) → List IC → List IC
  | _, _, [] => []
  | _, [], cs => cs
  | j, some _ :: ar, .sl _ _ :: cs => .sref (cid name j) :: encCells name (j + 1) ar cs
  | j, _ :: ar, c :: cs => c :: encCells name (j + 1) ar cs
def encBoxes (name : Nat) : Nat → List (Option Nat) → List IC → List (Nat × Box)
  | _, _, [] => []
  | _, [], _ => []
  | j, some ty :: ar, .sl t xs :: cs => (cid name j, .arr ty t xs false) :: encBoxes name (j + 1) ar cs
  | j, _ :: ar, _ :: cs => encBoxes name (j + 1) ar cs

/-- The other way round, exactly. -/
def decCells (name : Nat) : Nat → List (Option Nat) → List IC → List (Nat × Box) → Option (List IC × List (Nat × Box))
  | _, _, [], bx => some ([], bx)
  | _, [], cs, bx => some (cs, bx)
  | j, some ty :: ar, .sref m :: cs, (n, .arr ty' t xs fr) :: bx =>
    bif Nat.beq m (cid name j) && (Nat.beq n (cid name j) && (Nat.beq ty' ty && !fr)) then (match decCells name (j + 1) ar cs bx with | some (l, b) => some (.sl t xs :: l, b) | none => none) else none
  | _, some _ :: _, _ :: _, _ => none
  | j, none :: ar, c :: cs, bx => (match decCells name (j + 1) ar cs bx with | some (l, b) => some (c :: l, b) | none => none)

theorem decCells_spec (name : Nat) : ∀ (cs : List IC) (j : Nat) (ar : List (Option Nat)) (bx : List (Nat × Box)) {l : List IC} {b : List (Nat × Box)}, decCells name j ar cs bx = some (l, b) →
    cs = encCells name j ar l ∧ bx = encBoxes name j ar l ++ b
  | [], j, ar, bx, l, b, h => by
    cases ar <;> simp [decCells] at h <;> obtain ⟨rfl, rfl⟩ := h <;> exact ⟨by simp [encCells], by simp [encBoxes]⟩
  | c :: cs, j, [], bx, l, b, h => by
    simp [decCells] at h
    obtain ⟨rfl, rfl⟩ := h
    exact ⟨by simp [encCells], by simp [encBoxes]⟩
  | c :: cs, j, none :: ar, bx, l, b, h => by
    simp only [decCells] at h
    split at h
    · rename_i l' b' hd
      simp only [Option.some.injEq, Prod.mk.injEq] at h
      obtain ⟨rfl, rfl⟩ := h
      obtain ⟨h1, h2⟩ := decCells_spec name cs (j + 1) ar bx hd
      exact ⟨by rw [h1]; simp [encCells], by rw [h2]; simp [encBoxes]⟩
    · cases h
  | c :: cs, j, some ty :: ar, bx, l, b, h => by
    unfold decCells at h
    split at h
    · cases ‹_ :: _ = []›
    · cases ‹_ :: _ = []›
    · rename_i j _ _ _ _ ty2 ar2 m cs' n ty' t xs fr bx' e1 e2
      injection e1 with e1 e1'
      injection e2 with e2 e2'
      injection e1 with e1
      subst e1; subst e1'; subst e2'; subst e2
      cases hc : (Nat.beq m (cid name j) && (Nat.beq n (cid name j) && (Nat.beq ty' ty && !fr))) with
      | false => rw [hc] at h; cases h
      | true =>
        rw [hc] at h
        simp only [cond_true] at h
        simp only [Bool.and_eq_true, Bool.not_eq_true'] at hc
        obtain ⟨c1, c2, c3, rfl⟩ := hc
        split at h
        · rename_i l' b' hd
          simp only [Option.some.injEq, Prod.mk.injEq] at h
          obtain ⟨rfl, rfl⟩ := h
          obtain ⟨h1, h2⟩ := decCells_spec name _ (j + 1) ar _ hd
          rw [Nat.eq_of_beq_eq_true c1, Nat.eq_of_beq_eq_true c2, Nat.eq_of_beq_eq_true c3]
          exact ⟨by rw [h1]; simp [encCells], by rw [h2]; simp [encBoxes]⟩
        · cases h
    · cases h
    · rename_i e1 e2
      cases e1

/-- An element out of its cells, exactly. -/
def decS : (t : Ty) → List IC → Option (El t × List IC)
  | .int k, .v (.int k' n) :: r => if k' = k then some (n, r) else none
  | .bool, .v (.bool b) :: r => some (b, r)
  | .str, .v (.string s) :: r => some (s, r)
  | .sl t, .sl t' xs :: r => if h : t' = t then some (cast (congrArg (fun z => List (El z)) h) xs, r) else none
  | .prod a b, cs =>
    match decS a cs with
    | some (x, r) => (match decS b r with | some (y, r') => some ((x, y), r') | none => none)
    | none => none
  | _, _ => none

theorem decS_spec : ∀ (t : Ty) {cs : List IC} {e : El t} {r : List IC}, decS t cs = some (e, r) → cs = enc t e ++ r
  | .int k, cs, e, r, h => by
    match cs, h with
    | .v (.int k' n) :: r', h =>
      simp only [decS] at h
      split at h
      · rename_i hk
        subst hk
        simp only [Option.some.injEq, Prod.mk.injEq] at h
        obtain ⟨rfl, rfl⟩ := h
        rfl
      · cases h
  | .bool, cs, e, r, h => by
    match cs, h with
    | .v (.bool b) :: r', h => simp [decS] at h; obtain ⟨rfl, rfl⟩ := h; rfl
  | .str, cs, e, r, h => by
    match cs, h with
    | .v (.string b) :: r', h => simp [decS] at h; obtain ⟨rfl, rfl⟩ := h; rfl
  | .sl t, cs, e, r, h => by
    match cs, h with
    | .sl t' xs :: r', h =>
      simp only [decS] at h
      split at h
      · rename_i ht
        subst ht
        simp only [cast_eq, Option.some.injEq, Prod.mk.injEq] at h
        obtain ⟨rfl, rfl⟩ := h
        rfl
      · cases h
  | .prod a b, cs, e, r, h => by
    simp only [decS] at h
    split at h
    · rename_i x r1 h1
      split at h
      · rename_i y r2 h2
        simp only [Option.some.injEq, Prod.mk.injEq] at h
        obtain ⟨rfl, rfl⟩ := h
        rw [decS_spec a h1, decS_spec b h2]
        simp [enc]
      · cases h
    · cases h
  | .pint k, cs, e, r, h => by simp [decS] at h
  | .addr, cs, e, r, h => by simp [decS] at h

def decS1 (t : Ty) (cs : List IC) : Option (El t) := match decS t cs with | some (x, []) => some x | _ => none
theorem decS1_spec {t : Ty} {cs : List IC} {e : El t} (h : decS1 t cs = some e) : cs = enc t e := by
  unfold decS1 at h
  split at h
  · rename_i x hx
    injection h with h; subst h
    simpa using decS_spec t hx
  · cases h

/-- The name of what a function at this place has caught. -/
def fid (p j : Nat) : Nat := fname (oid p) j

def ivC (p : Nat) : Nat → (cs : List CK) → ElC cs → List IC
  | _, [], _ => []
  | j, .o _ _ _ :: r, x => .ref (fid p j) 0 :: ivC p (j + 1) r x.2
  | j, .v t :: r, x => (enc t x.1).headD .junk :: ivC p (j + 1) r x.2
def bxC (p : Nat) : Nat → (cs : List CK) → ElC cs → List (Nat × Box)
  | _, [], _ => []
  | j, .o ty t ar :: r, x => (fid p j, .cells ty (encCells (fid p j) 0 ar (enc t x.1))) :: (encBoxes (fid p j) 0 ar (enc t x.1) ++ bxC p (j + 1) r x.2)
  | j, .v _ :: r, x => bxC p (j + 1) r x.2
def oidsC (p : Nat) : Nat → List CK → List Nat
  | _, [] => []
  | j, .o _ _ _ :: r => fid p j :: oidsC p (j + 1) r
  | j, .v _ :: r => oidsC p (j + 1) r

def ivAO : Nat → (ps : List AK) → ElA ps → List IV
  | _, [], _ => []
  | p, .d b t :: r, x => mkIV b (enc t x.1) :: ivAO (p + 1) r x.2
  | p, .p t :: r, x => .c (.snap (enc t x.1) 0) :: ivAO (p + 1) r x.2
  | p, .q t :: r, x => .c (.psnap (enc t x.1) 0) :: ivAO (p + 1) r x.2
  | p, .f g cs :: r, x => .c (.fn g (capCells cs x.1)) :: ivAO (p + 1) r x.2
  | p, .ff g h cs :: r, x => .c (.fn g [.snap [.fn h (capCells cs x.1)] 0]) :: ivAO (p + 1) r x.2
  | p, .pf h cs :: r, x => .c (.snap [.fn h (capCells cs x.1)] 0) :: ivAO (p + 1) r x.2
  | p, .z :: r, x => .c (.v (.pointer none)) :: ivAO (p + 1) r x
  | p, .o _ _ _ :: r, x => .c (.ref (oid p) 0) :: ivAO (p + 1) r x.2
  | p, .m _ _ :: r, x => .c (.sref (oid p)) :: ivAO (p + 1) r x.2
  | p, .fo g cs :: r, x => .c (.fn g (ivC p 0 cs x.1)) :: ivAO (p + 1) r x.2

def bxAO : Nat → (ps : List AK) → ElA ps → List (Nat × Box)
  | _, [], _ => []
  | p, .d _ _ :: r, x => bxAO (p + 1) r x.2
  | p, .p _ :: r, x => bxAO (p + 1) r x.2
  | p, .q _ :: r, x => bxAO (p + 1) r x.2
  | p, .f _ _ :: r, x => bxAO (p + 1) r x.2
  | p, .ff _ _ _ :: r, x => bxAO (p + 1) r x.2
  | p, .pf _ _ :: r, x => bxAO (p + 1) r x.2
  | p, .z :: r, x => bxAO (p + 1) r x
  | p, .o ty t ar :: r, x => (oid p, .cells ty (encCells (oid p) 0 ar (enc t x.1))) :: (encBoxes (oid p) 0 ar (enc t x.1) ++ bxAO (p + 1) r x.2)
  | p, .m ty t :: r, x => (oid p, .arr ty t x.1 false) :: bxAO (p + 1) r x.2
  | p, .fo _ cs :: r, x => bxC p 0 cs x.1 ++ bxAO (p + 1) r x.2

/-- The names of the objects that are handed over. -/
def oids : Nat → List AK → List Nat
  | _, [] => []
  | p, .o _ _ _ :: r => oid p :: oids (p + 1) r
  | p, .fo _ cs :: r => oidsC p 0 cs ++ oids (p + 1) r
  | p, _ :: r => oids (p + 1) r

theorem encBoxes_arr (name : Nat) : ∀ (cs : List IC) (j : Nat) (ar : List (Option Nat)) (n ty : Nat) (l : List IC), (n, Box.cells ty l) ∈ encBoxes name j ar cs → False
  | [], j, ar, n, ty, l, h => by cases ar <;> simp [encBoxes] at h
  | c :: cs, j, [], n, ty, l, h => by simp [encBoxes] at h
  | c :: cs, j, none :: ar, n, ty, l, h => encBoxes_arr name cs (j + 1) ar n ty l (by simpa [encBoxes] using h)
  | c :: cs, j, some t :: ar, n, ty, l, h => by
    cases c <;> simp [encBoxes] at h <;> exact encBoxes_arr name cs (j + 1) ar n ty l h

theorem oidsC_mem {p : Nat} : ∀ {cs : List CK} {j : Nat} {x : ElC cs} {n ty : Nat} {l : List IC}, (n, Box.cells ty l) ∈ bxC p j cs x → n ∈ oidsC p j cs
  | [], j, x, n, ty, l, h => by cases h
  | .v _ :: r, j, x, n, ty, l, h => oidsC_mem (cs := r) h
  | .o ty' t ar :: r, j, x, n, ty, l, h => by
    rcases List.mem_cons.1 h with h | h
    · injection h with h1 h2
      rw [h1]; exact List.mem_cons_self ..
    · rcases List.mem_append.1 h with h | h
      · exact (encBoxes_arr _ _ _ _ _ _ _ h).elim
      · exact List.mem_cons_of_mem _ (oidsC_mem h)

theorem oids_mem : ∀ {ps : List AK} {p : Nat} {x : ElA ps} {n ty : Nat} {cs : List IC}, (n, Box.cells ty cs) ∈ bxAO p ps x → n ∈ oids p ps
  | [], p, x, n, ty, cs, h => by cases h
  | .d _ _ :: r, p, x, n, ty, cs, h => oids_mem (ps := r) h
  | .p _ :: r, p, x, n, ty, cs, h => oids_mem (ps := r) h
  | .q _ :: r, p, x, n, ty, cs, h => oids_mem (ps := r) h
  | .f _ _ :: r, p, x, n, ty, cs, h => oids_mem (ps := r) h
  | .ff _ _ _ :: r, p, x, n, ty, cs, h => oids_mem (ps := r) h
  | .pf _ _ :: r, p, x, n, ty, cs, h => oids_mem (ps := r) h
  | .z :: r, p, x, n, ty, cs, h => oids_mem (ps := r) (x := x) h
  | .o ty' t ar :: r, p, x, n, ty, cs, h => by
    rcases List.mem_cons.1 h with h | h
    · injection h with h1 h2
      rw [h1]; exact List.mem_cons_self ..
    · rcases List.mem_append.1 h with h | h
      · exact (encBoxes_arr _ _ _ _ _ _ _ h).elim
      · exact List.mem_cons_of_mem _ (oids_mem h)
  | .m ty' t :: r, p, x, n, ty, cs, h => by
    rcases List.mem_cons.1 h with h | h
    · injection h with h1 h2; cases h2
    · exact oids_mem (ps := r) h
  | .fo g ks :: r, p, x, n, ty, cs, h => by
    rcases List.mem_append.1 h with h | h
    · exact List.mem_append_left _ (oidsC_mem h)
    · exact List.mem_append_right _ (oids_mem h)

theorem ivAO_length : ∀ (p : Nat) (ps : List AK) (x : ElA ps), (ivAO p ps x).length = ps.length
  | _, [], _ => rfl
  | p, .d _ _ :: r, x => by simp [ivAO, ivAO_length (p + 1) r]
  | p, .p _ :: r, x => by simp [ivAO, ivAO_length (p + 1) r]
  | p, .q _ :: r, x => by simp [ivAO, ivAO_length (p + 1) r]
  | p, .f _ _ :: r, x => by simp [ivAO, ivAO_length (p + 1) r]
  | p, .ff _ _ _ :: r, x => by simp [ivAO, ivAO_length (p + 1) r]
  | p, .pf _ _ :: r, x => by simp [ivAO, ivAO_length (p + 1) r]
  | p, .z :: r, x => by simp [ivAO]; exact ivAO_length (p + 1) r x
  | p, .o _ _ _ :: r, x => by simp [ivAO, ivAO_length (p + 1) r]
  | p, .m _ _ :: r, x => by simp [ivAO, ivAO_length (p + 1) r]
  | p, .fo _ _ :: r, x => by simp [ivAO, ivAO_length (p + 1) r]

def isRef (n : Nat) : IV → Bool
  | .c (.ref m 0) => Nat.beq m n
  | _ => false
def isSref (n : Nat) : IV → Bool
  | .c (.sref m) => Nat.beq m n
  | _ => false
theorem isRef_eq {n : Nat} {v : IV} (h : isRef n v = true) : v = .c (.ref n 0) := by
  unfold isRef at h
  split at h
  · rw [Nat.eq_of_beq_eq_true h]
  · cases h
theorem isSref_eq {n : Nat} {v : IV} (h : isSref n v = true) : v = .c (.sref n) := by
  unfold isSref at h
  split at h
  · rw [Nat.eq_of_beq_eq_true h]
  · cases h

/-- An object's data out of the boxes ahead, and the boxes that are left. -/
def decObj (name ty : Nat) (t : Ty) (ar : List (Option Nat)) : List (Nat × Box) → Option (El t × List (Nat × Box))
  | (n, .cells ty' cs) :: bx => bif Nat.beq n name && Nat.beq ty' ty then (match decCells name 0 ar cs bx with | some (l, b) => (match decS1 t l with | some e => some (e, b) | none => none) | none => none) else none
  | _ => none
def decMv (name ty : Nat) (t : Ty) : List (Nat × Box) → Option (List (El t) × List (Nat × Box))
  | (n, .arr ty' t' xs fr) :: bx => bif Nat.beq n name && (Nat.beq ty' ty && !fr) then (match asTy t t' xs with | some l => some (l, bx) | none => none) else none
  | _ => none

theorem decObj_spec {name ty : Nat} {t : Ty} {ar : List (Option Nat)} {bx b : List (Nat × Box)} {e : El t} (h : decObj name ty t ar bx = some (e, b)) :
    bx = (name, .cells ty (encCells name 0 ar (enc t e))) :: (encBoxes name 0 ar (enc t e) ++ b) := by
  unfold decObj at h
  split at h
  · rename_i n ty' cs bx'
    cases hc : (Nat.beq n name && Nat.beq ty' ty) with
    | false => rw [hc] at h; cases h
    | true =>
      rw [hc] at h
      simp only [cond_true] at h
      simp only [Bool.and_eq_true] at hc
      split at h
      · rename_i l b' hd
        split at h
        · rename_i e' he
          simp only [Option.some.injEq, Prod.mk.injEq] at h
          obtain ⟨rfl, rfl⟩ := h
          obtain ⟨h1, h2⟩ := decCells_spec _ _ _ _ _ hd
          rw [decS1_spec he] at h1 h2
          rw [h1, h2, Nat.eq_of_beq_eq_true hc.1, Nat.eq_of_beq_eq_true hc.2]
        · cases h
      · cases h
  · cases h

theorem decMv_spec {name ty : Nat} {t : Ty} {bx b : List (Nat × Box)} {e : List (El t)} (h : decMv name ty t bx = some (e, b)) : bx = (name, .arr ty t e false) :: b := by
  unfold decMv at h
  split at h
  · rename_i n ty' t' xs fr bx'
    cases hc : (Nat.beq n name && (Nat.beq ty' ty && !fr)) with
    | false => rw [hc] at h; cases h
    | true =>
      rw [hc] at h
      simp only [cond_true] at h
      simp only [Bool.and_eq_true, Bool.not_eq_true'] at hc
      split at h
      · rename_i l hl
        simp only [Option.some.injEq, Prod.mk.injEq] at h
        obtain ⟨rfl, rfl⟩ := h
        unfold asTy at hl
        split at hl
        · rename_i ht
          subst ht
          simp only [cast_eq, Option.some.injEq] at hl
          subst hl
          rw [Nat.eq_of_beq_eq_true hc.1, Nat.eq_of_beq_eq_true hc.2.1, hc.2.2]
        · cases hl
      · cases h
  · cases h

def isRefC (n : Nat) : IC → Bool
  | .ref m 0 => Nat.beq m n
  | _ => false
theorem isRefC_eq {n : Nat} {c : IC} (h : isRefC n c = true) : c = .ref n 0 := by
  unfold isRefC at h
  split at h
  · rw [Nat.eq_of_beq_eq_true h]
  · cases h

def decC (p : Nat) : Nat → (cs : List CK) → List IC → List (Nat × Box) → Option (ElC cs × List (Nat × Box))
  | _, [], [], bx => some ((), bx)
  | j, .o ty t ar :: r, c :: l, bx => (match isRefC (fid p j) c, decObj (fid p j) ty t ar bx with
    | true, some (e, b) => (match decC p (j + 1) r l b with | some (y, b') => some ((e, y), b') | none => none)
    | _, _ => none)
  | j, .v t :: r, c :: l, bx => (match dec1 t [c], decC p (j + 1) r l bx with | some e, some (y, b') => some ((e, y), b') | _, _ => none)
  | _, _, _, _ => none

theorem decC_tell {p : Nat} : ∀ {cs : List CK} {j : Nat} {l : List IC} {bx b : List (Nat × Box)} {x : ElC cs}, decC p j cs l bx = some (x, b) →
    bx = bxC p j cs x ++ b ∧ l.length = (ivC p j cs x).length ∧ ∀ (i : Nat) (d : IC), (ivC p j cs x)[i]? = some d → ∃ c : IC, l[i]? = some c ∧ Tells c d
  | [], j, l, bx, b, x, h => by
    cases l with
    | nil =>
      simp only [decC, Option.some.injEq, Prod.mk.injEq] at h
      obtain ⟨_, rfl⟩ := h
      exact ⟨rfl, rfl, fun i d hd => by simp [ivC] at hd⟩
    | cons => simp [decC] at h
  | k :: cs, j, [], bx, b, x, h => by cases k <;> simp [decC] at h
  | .o ty t ar :: cs, j, c :: l, bx, b, x, h => by
    simp only [decC] at h
    split at h
    · rename_i e b1 ha hd
      split at h
      · rename_i y b2 hy
        simp only [Option.some.injEq, Prod.mk.injEq] at h
        obtain ⟨rfl, rfl⟩ := h
        obtain ⟨i0, i1, i2⟩ := decC_tell hy
        refine ⟨by rw [decObj_spec hd, i0]; simp [bxC], by simp [ivC, i1], fun i d hi => ?_⟩
        cases i with
        | zero => simp [ivC] at hi; subst hi; exact ⟨c, rfl, by rw [isRefC_eq ha]; exact fun _ _ _ h => h⟩
        | succ i => exact i2 i d (by simpa [ivC] using hi)
      · cases h
    · cases h
  | .v t :: cs, j, c :: l, bx, b, x, h => by
    simp only [decC] at h
    split at h
    · rename_i e y b2 ha hy
      simp only [Option.some.injEq, Prod.mk.injEq] at h
      obtain ⟨rfl, rfl⟩ := h
      obtain ⟨i0, i1, i2⟩ := decC_tell hy
      refine ⟨i0, by simp [ivC, i1], fun i d hi => ?_⟩
      cases i with
      | zero =>
        have ht : Tells c ((enc t e).headD .junk) := decCap_tell (b := false) (t := t) (c := c) (e := e) ha
        have hd : (enc t e).headD .junk = d := by simpa [ivC] using hi
        rw [hd] at ht
        exact ⟨c, rfl, ht⟩
      | succ i => exact i2 i d (by simpa [ivC] using hi)
    · cases h

def decFO (p : Nat) (g : FuncId) (cs : List CK) (bx : List (Nat × Box)) : IV → Option (ElC cs × List (Nat × Box))
  | .c (.fn g' cap) => bif Nat.beq g' g then decC p 0 cs cap bx else none
  | _ => none

theorem decFO_tell {p : Nat} {g : FuncId} {cs : List CK} {bx b : List (Nat × Box)} {v : IV} {x : ElC cs} (h : decFO p g cs bx v = some (x, b)) : bx = bxC p 0 cs x ++ b ∧ TellsV v (.c (.fn g (ivC p 0 cs x))) := by
  unfold decFO at h
  split at h
  · rename_i g' cap
    cases hg : Nat.beq g' g with
    | false => rw [hg] at h; cases h
    | true =>
      rw [hg] at h
      have hg := Nat.eq_of_beq_eq_true hg
      subst hg
      obtain ⟨i0, i1, i2⟩ := decC_tell (show decC p 0 cs cap bx = some (x, b) from h)
      refine ⟨i0, fun y w u hu => ?_⟩
      cases hu with
      | c _ _ hu =>
        cases hu with
        | fn _ _ caps hs hel =>
          refine .c _ _ (.fn g' _ caps (by rw [hs, i1]) fun j d hd => ?_)
          obtain ⟨c, hc, ht⟩ := i2 j d hd
          exact ht _ _ _ (hel j c hc)
  · cases h

def decAO : Nat → (ps : List AK) → List IV → List (Nat × Box) → Option (ElA ps)
  | _, [], [], [] => some ()
  | p, .d b t :: r, v :: l, bx => (match decArg b t v, decAO (p + 1) r l bx with | some x, some y => some (x, y) | _, _ => none)
  | p, .p t :: r, v :: l, bx => (match decPV t v, decAO (p + 1) r l bx with | some x, some y => some (x, y) | _, _ => none)
  | p, .q t :: r, v :: l, bx => (match decQV t v, decAO (p + 1) r l bx with | some x, some y => some (x, y) | _, _ => none)
  | p, .f g cs :: r, v :: l, bx => (match decF g cs v, decAO (p + 1) r l bx with | some x, some y => some (x, y) | _, _ => none)
  | p, .ff g h cs :: r, v :: l, bx => (match decFF g h cs v, decAO (p + 1) r l bx with | some x, some y => some (x, y) | _, _ => none)
  | p, .pf h cs :: r, v :: l, bx => (match decPF h cs v, decAO (p + 1) r l bx with | some x, some y => some (x, y) | _, _ => none)
  | p, .z :: r, v :: l, bx => (match isNilP v, decAO (p + 1) r l bx with | true, some y => some y | _, _ => none)
  | p, .o ty t ar :: r, v :: l, bx => (match isRef (oid p) v, decObj (oid p) ty t ar bx with
    | true, some (e, b) => (match decAO (p + 1) r l b with | some y => some (e, y) | none => none)
    | _, _ => none)
  | p, .m ty t :: r, v :: l, bx => (match isSref (oid p) v, decMv (oid p) ty t bx with
    | true, some (e, b) => (match decAO (p + 1) r l b with | some y => some (e, y) | none => none)
    | _, _ => none)
  | p, .fo g cs :: r, v :: l, bx => (match decFO p g cs bx v with
    | some (e, b) => (match decAO (p + 1) r l b with | some y => some (e, y) | none => none)
    | none => none)
  | _, _, _, _ => none

theorem decAO_tell : ∀ {ps : List AK} {p : Nat} {args : List IV} {bx : List (Nat × Box)} {x : ElA ps}, decAO p ps args bx = some x →
    bx = bxAO p ps x ∧ args.length = ps.length ∧ ∀ (j : Nat) (c : IV), (ivAO p ps x)[j]? = some c → ∃ a : IV, args[j]? = some a ∧ TellsV a c
  | [], p, args, bx, x, h => by
    cases args with
    | nil => cases bx with
      | nil => exact ⟨rfl, rfl, fun j c hc => by simp [ivAO] at hc⟩
      | cons => simp [decAO] at h
    | cons => simp [decAO] at h
  | k :: ps, p, [], bx, x, h => by cases k <;> simp [decAO] at h
  | .d b t :: ps, p, v :: l, bx, x, h => by
    simp only [decAO] at h
    split at h
    · rename_i a y ha hy
      injection h with h; subst h
      obtain ⟨i0, i1, i2⟩ := decAO_tell hy
      refine ⟨i0, by simp [i1], fun j c hc => ?_⟩
      cases j with
      | zero => simp [ivAO] at hc; subst hc; exact ⟨v, rfl, decArg_tell ha⟩
      | succ j => exact i2 j c (by simpa [ivAO] using hc)
    · cases h
  | .p t :: ps, p, v :: l, bx, x, h => by
    simp only [decAO] at h
    split at h
    · rename_i a y ha hy
      injection h with h; subst h
      obtain ⟨i0, i1, i2⟩ := decAO_tell hy
      refine ⟨i0, by simp [i1], fun j c hc => ?_⟩
      cases j with
      | zero => simp [ivAO] at hc; subst hc; exact ⟨v, rfl, decPV_tell ha⟩
      | succ j => exact i2 j c (by simpa [ivAO] using hc)
    · cases h
  | .q t :: ps, p, v :: l, bx, x, h => by
    simp only [decAO] at h
    split at h
    · rename_i a y ha hy
      injection h with h; subst h
      obtain ⟨i0, i1, i2⟩ := decAO_tell hy
      refine ⟨i0, by simp [i1], fun j c hc => ?_⟩
      cases j with
      | zero => simp [ivAO] at hc; subst hc; exact ⟨v, rfl, decQV_tell ha⟩
      | succ j => exact i2 j c (by simpa [ivAO] using hc)
    · cases h
  | .f g cs :: ps, p, v :: l, bx, x, h => by
    simp only [decAO] at h
    split at h
    · rename_i a y ha hy
      injection h with h; subst h
      obtain ⟨i0, i1, i2⟩ := decAO_tell hy
      refine ⟨i0, by simp [i1], fun j c hc => ?_⟩
      cases j with
      | zero => simp [ivAO] at hc; subst hc; exact ⟨v, rfl, decF_tell ha⟩
      | succ j => exact i2 j c (by simpa [ivAO] using hc)
    · cases h
  | .ff g k cs :: ps, p, v :: l, bx, x, h => by
    simp only [decAO] at h
    split at h
    · rename_i a y ha hy
      injection h with h; subst h
      obtain ⟨i0, i1, i2⟩ := decAO_tell hy
      refine ⟨i0, by simp [i1], fun j c hc => ?_⟩
      cases j with
      | zero => simp [ivAO] at hc; subst hc; exact ⟨v, rfl, decFF_tell ha⟩
      | succ j => exact i2 j c (by simpa [ivAO] using hc)
    · cases h
  | .pf k cs :: ps, p, v :: l, bx, x, h => by
    simp only [decAO] at h
    split at h
    · rename_i a y ha hy
      injection h with h; subst h
      obtain ⟨i0, i1, i2⟩ := decAO_tell hy
      refine ⟨i0, by simp [i1], fun j c hc => ?_⟩
      cases j with
      | zero => simp [ivAO] at hc; subst hc; exact ⟨v, rfl, decPF_tell ha⟩
      | succ j => exact i2 j c (by simpa [ivAO] using hc)
    · cases h
  | .z :: ps, p, v :: l, bx, x, h => by
    simp only [decAO] at h
    split at h
    · rename_i y ha hy
      injection h with h; subst h
      obtain ⟨i0, i1, i2⟩ := decAO_tell hy
      refine ⟨i0, by simp [i1], fun j c hc => ?_⟩
      cases j with
      | zero => simp [ivAO] at hc; subst hc; exact ⟨v, rfl, by rw [isNilP_eq ha]; exact fun _ _ _ h => h⟩
      | succ j => exact i2 j c (by simpa [ivAO] using hc)
    · cases h
  | .o ty t ar :: ps, p, v :: l, bx, x, h => by
    simp only [decAO] at h
    split at h
    · rename_i e b ha hd
      split at h
      · rename_i y hy
        injection h with h; subst h
        obtain ⟨i0, i1, i2⟩ := decAO_tell hy
        refine ⟨by rw [decObj_spec hd, i0]; rfl, by simp [i1], fun j c hc => ?_⟩
        cases j with
        | zero => simp [ivAO] at hc; subst hc; exact ⟨v, rfl, by rw [isRef_eq ha]; exact fun _ _ _ h => h⟩
        | succ j => exact i2 j c (by simpa [ivAO] using hc)
      · cases h
    · cases h
  | .m ty t :: ps, p, v :: l, bx, x, h => by
    simp only [decAO] at h
    split at h
    · rename_i e b ha hd
      split at h
      · rename_i y hy
        injection h with h; subst h
        obtain ⟨i0, i1, i2⟩ := decAO_tell hy
        refine ⟨by rw [decMv_spec hd, i0]; rfl, by simp [i1], fun j c hc => ?_⟩
        cases j with
        | zero => simp [ivAO] at hc; subst hc; exact ⟨v, rfl, by rw [isSref_eq ha]; exact fun _ _ _ h => h⟩
        | succ j => exact i2 j c (by simpa [ivAO] using hc)
      · cases h
    · cases h
  | .fo g cs :: ps, p, v :: l, bx, x, h => by
    simp only [decAO] at h
    split at h
    · rename_i e b hd
      split at h
      · rename_i y hy
        injection h with h; subst h
        obtain ⟨i0, i1, i2⟩ := decAO_tell hy
        obtain ⟨d0, d1⟩ := decFO_tell hd
        refine ⟨by rw [d0, i0]; rfl, by simp [i1], fun j c hc => ?_⟩
        cases j with
        | zero => simp [ivAO] at hc; subst hc; exact ⟨v, rfl, d1⟩
        | succ j => exact i2 j c (by simpa [ivAO] using hc)
      · cases h
    · cases h

theorem ReturnsO.tell {P : Program} {g : FuncId} {ps : List AK} {x : ElA ps} {args : List IV} {bx bx' : List (Nat × Box)} {res : IV} (h : ReturnsO P g (ivAO 0 ps x) (bxAO 0 ps x) res bx') (hd : decAO 0 ps args bx = some x) :
    ReturnsO P g args bx res bx' := by
  obtain ⟨h0, h1, h2⟩ := decAO_tell hd
  subst h0
  intro w us M O y hy hus ha
  refine h w us M O y hy (by rw [hus, h1, ivAO_length]) fun j c hc => ?_
  obtain ⟨a, hj, ht⟩ := h2 j c hc
  exact ht _ _ _ (ha j a hj)

def spO (ps : List AK) (pre : ElA ps → Bool) (res : ElA ps → IV) (back : ElA ps → List (Nat × Box)) : OSpec := fun args bx k =>
  match decAO 0 ps args bx with | some x => test (pre x) (k (res x) (back x)) | none => none
def orO (ps : List AK) (pre : ElA ps → Bool) (res : ElA ps → IV) (back : ElA ps → List (Nat × Box)) (s : OSpec) : OSpec := fun args bx k =>
  match decAO 0 ps args bx with | some x => test (pre x) (k (res x) (back x)) | none => s args bx k

theorem specO_ret {P : Program} {g : FuncId} {fn : Func} (hf : P.funcs[g]? = some fn) (hn : (fn.name == "runtime.NumGoroutine") = false) (hb : fn.body.isNone = false) {ps : List AK} {pre : ElA ps → Bool} {res : ElA ps → IV} {back : ElA ps → List (Nat × Box)}
    (H : ∀ x, pre x = true → ReturnsO P g (ivAO 0 ps x) (bxAO 0 ps x) (res x) (back x)) : SpecOKO P g (spO ps pre res back) := by
  refine ⟨call_enter hf hn hb, fun args bx k r h => ?_⟩
  unfold spO at h
  cases hd : decAO 0 ps args bx with
  | none => rw [hd] at h; cases h
  | some x =>
    rw [hd] at h
    obtain ⟨h1, h2⟩ := test_some h
    refine ⟨res x, back x, fun k' => ?_, (H x h1).tell hd⟩
    unfold spO
    rw [hd]
    show test _ _ = _
    rw [h1]; rfl

theorem SpecOKO.or {P : Program} {g : FuncId} {ps : List AK} {pre : ElA ps → Bool} {res : ElA ps → IV} {back : ElA ps → List (Nat × Box)} {s : OSpec} (h1 : SpecOKO P g (spO ps pre res back)) (h2 : SpecOKO P g s) : SpecOKO P g (orO ps pre res back s) := by
  refine ⟨h1.call, fun args bx k r h => ?_⟩
  unfold orO at h
  cases hd : decAO 0 ps args bx with
  | none =>
    rw [hd] at h
    obtain ⟨q, b, q1, q2⟩ := h2.ret args bx k r h
    refine ⟨q, b, fun k' => ?_, q2⟩
    unfold orO
    rw [hd]
    exact q1 k'
  | some x =>
    rw [hd] at h
    have h' : spO ps pre res back args bx k = some r := by
      unfold spO; rw [hd]; exact h
    obtain ⟨q, b, q1, q2⟩ := h1.ret args bx k r h'
    refine ⟨q, b, fun k' => ?_, q2⟩
    rw [← q1 k']
    unfold orO spO
    rw [hd]

/-- One result: data; a slice that is the caller's own; a struct of which some slices are the caller's own. -/
inductive RV where
  | d (v : IV)
  | m (ty : Nat) (t : Ty) (xs : List (El t))
  | a (t : Ty) (ar : List (Option Nat)) (x : El t)
  | o (ty : Nat) (t : Ty) (ar : List (Option Nat)) (x : El t)

def rvIV (i : Nat) : RV → IV
  | .d v => v
  | .m _ _ _ => .c (.sref (rid i))
  | .a t ar x => .agg (encCells (rid i) 0 ar (enc t x))
  | .o _ _ _ _ => .c (.ref (rid i) 0)
def rvBx (i : Nat) : RV → List (Nat × Box)
  | .d _ => []
  | .m ty t xs => [(rid i, .arr ty t xs false)]
  | .a t ar x => encBoxes (rid i) 0 ar (enc t x)
  | .o ty t ar x => (rid i, .cells ty (encCells (rid i) 0 ar (enc t x))) :: encBoxes (rid i) 0 ar (enc t x)
def rvIVs : Nat → List RV → List IV
  | _, [] => []
  | i, v :: r => rvIV i v :: rvIVs (i + 1) r
def rvBxs : Nat → List RV → List (Nat × Box)
  | _, [] => []
  | i, v :: r => rvBx i v ++ rvBxs (i + 1) r
def objBx (p ty : Nat) (t : Ty) (ar : List (Option Nat)) (x : El t) : List (Nat × Box) := (oid p, .cells ty (encCells (oid p) 0 ar (enc t x))) :: encBoxes (oid p) 0 ar (enc t x)

end Go.Proofs.Ytdoilggfajngiaa.VE
