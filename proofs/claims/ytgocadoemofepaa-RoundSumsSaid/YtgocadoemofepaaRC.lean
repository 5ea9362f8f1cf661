/-
  In turn, by weight: where each stands; the document's wheel.
-/
import Derived.Test.YtgocadoemofepaaRB
namespace Go.Proofs.Ytgocadoemofepaa
open Go VE

theorem turns_loop (w : El TWheel) (hlen : w.1.length = w.2.length) (hb : w.1.length * 16 ≤ reachBytes) : ∀ (n k : Nat) (out : List (Int × Int)), w.1.length = k + n → out.length = k →
    turns.l1 (n + 1) w.1 w.1.length k out w.1 w.2 = some (.c (.sl TShare (out ++ turnsOf (w.1.drop k) (w.2.drop k))), objBx 0 47 TWheel [none, some 3] w)
  | 0, k, out, h, ho => by
    have hk : k = w.1.length := by omega
    subst hk
    rw [turns.s1, cond_df (by omega), List.drop_length]
    show _ = some (IV.c (.sl TShare (out ++ [])), _)
    rw [List.append_nil]
    rfl
  | n + 1, k, out, h, ho => by
    have hr := reach_lt
    rw [turns.s1, cond_dt (by omega), test_d (by omega), test_d (by omega), test_d (by omega), test_d (by omega), test_d (by simp only [List.length_cons, List.length_nil, lim]; omega), w64s (by omega), toNat_cast]
    rw [turns_loop w hlen hb n (k + 1) _ (by omega) (by simp [ho])]
    rw [rdEl_drop (t := TShare) w.1 (by omega : k < w.1.length), rdEl_drop (t := .int .i64) w.2 (by omega : k < w.2.length)]
    have e : turnsOf (rdEl TShare w.1 k :: List.drop (k + 1) w.1) (rdEl (.int .i64) w.2 k :: List.drop (k + 1) w.2) = ((rdEl TShare w.1 k).1, rdEl (.int .i64) w.2 k) :: turnsOf (w.1.drop (k + 1)) (w.2.drop (k + 1)) := rfl
    rw [e, List.append_assoc]
    rfl

theorem turns_ok : turns.OK := turns.mk .nil fun w hx => by
  have h : (fits TWheel w && (decide (w.1.length = w.2.length) && true)) = true := hx
  simp only [Bool.and_eq_true, decide_eq_true_eq] at h
  refine ⟨w.1.length + 2, ?_⟩
  rw [turns.start]
  exact turns_loop w h.2.1 (wheel_fits h.1).1 w.1.length 0 [] (by omega) rfl

/-! ### the document's wheel -/

theorem rd_turns {l : List (Int × Int)} {now : List Int} {k : Nat} (h1 : k < l.length) (h2 : k < now.length) : rdEl TShare (turnsOf l now) k = ((rdEl TShare l k).1, rdEl (.int .i64) now k) := by
  simp [rdEl, turnsOf, List.getD, List.getElem?_zipWith, h1, h2]

theorem turns_len (l : List (Int × Int)) (now : List Int) (h : now.length = l.length) : (turnsOf l now).length = l.length := by
  simp [turnsOf, h]

theorem turns_set {l : List (Int × Int)} {now : List Int} {k : Nat} (hn : now.length = l.length) (h1 : k < l.length) (v : Int) : (turnsOf l now).set k ((rdEl TShare l k).1, v) = turnsOf l (now.set k v) := by
  refine List.ext_getElem? fun i => ?_
  rw [List.getElem?_set]
  unfold turnsOf
  rw [List.getElem?_zipWith, List.getElem?_zipWith, List.getElem?_set, List.length_zipWith]
  by_cases hi : k = i
  · subst hi
    have : k < now.length := by omega
    simp [h1, this, rdEl, List.getD]
    omega
  · simp [hi]

theorem nows_turns {l : List (Int × Int)} {now : List Int} (h : now.length = l.length) : nowsR (l, turnsOf l now) = now := by
  unfold nowsR turnsOf
  rw [List.map_zipWith]
  refine List.ext_getElem? fun i => ?_
  rw [List.getElem?_zipWith]
  by_cases hi : i < l.length
  · have h2 : i < now.length := by omega
    simp [hi, h2]
  · have h2 : ¬ i < now.length := by omega
    simp [List.getElem?_eq_none (Nat.le_of_not_lt hi), List.getElem?_eq_none (Nat.le_of_not_lt h2)]

theorem ids_turns {l : List (Int × Int)} {now : List Int} (h : now.length = l.length) : List.map Prod.fst l = List.map Prod.fst (turnsOf l now) := by
  unfold turnsOf
  rw [List.map_zipWith]
  refine List.ext_getElem? fun i => ?_
  rw [List.getElem?_zipWith, List.getElem?_map]
  by_cases hi : i < l.length
  · have h2 : i < now.length := by omega
    simp [hi, h2]
  · simp [List.getElem?_eq_none (Nat.le_of_not_lt hi)]

theorem turns_back {row L : List (Int × Int)} (h : List.map Prod.fst row = List.map Prod.fst L) : L = turnsOf row (L.map (·.2)) := by
  unfold turnsOf
  refine List.ext_getElem? fun i => ?_
  rw [List.getElem?_zipWith, List.getElem?_map]
  have h1 := congrArg (·[i]?) h
  simp only [List.getElem?_map] at h1
  cases hL : L[i]? with
  | none => cases row[i]? <;> rfl
  | some z =>
    rw [hL] at h1
    cases hr : row[i]? with
    | none => rw [hr] at h1; cases h1
    | some s =>
      rw [hr] at h1
      simp only [Option.map_some, Option.some.injEq] at h1
      show some z = some (s.1, z.2)
      rw [h1]

def nextEndR (l : List (El TShare)) (s : Nat × Int × List Int) : R :=
  some (.tup [vi .i64 (rdEl TShare l s.1).1, vb true], objBx 0 31 TWheelR [none, some 42] (l, turnsOf l (s.2.2.set s.1 (IntKind.i64.wrap (rdEl (.int .i64) s.2.2 s.1 - s.2.1)))))

theorem nextR_loop (l : List (El TShare)) (hl : l.length ≤ 64) : ∀ (n k top : Nat) (all : Int) (now : List Int), l.length = k + n → top < l.length → now.length = l.length →
    nextR.l3 (n + 1) l top all l l.length k l (turnsOf l now) = nextEndR l (spin l n k top all now)
  | 0, k, top, all, now, h, ht, hn => by
    have htl := turns_len l now hn
    rw [nextR.s3, cond_df (by omega), test_d (by omega), test_d (by omega), test_d (by omega), test_d (by omega), test_d (by omega), test_d (by omega), toNat_cast, rd_turns ht (by omega)]
    simp only
    rw [turns_set hn ht]
    rfl
  | n + 1, k, top, all, now, h, ht, hn => by
    have htl := turns_len l now hn
    have hk : k < l.length := by omega
    rw [nextR.s3, cond_dt (by omega), test_d (by omega), test_d (by omega), test_d (by omega), test_d (by omega), test_d (by omega), test_d (by omega), cond_df (by omega)]
    simp only [toNat_cast]
    rw [w64s (by omega), rd_turns hk (by omega)]
    simp only
    rw [turns_set hn hk]
    have hB : List.set now k (IntKind.i64.wrap (rdEl (.int .i64) now k + (rdEl TShare l k).2)) = bump l now k := rfl
    rw [hB]
    have hbl := bump_len l now k
    have ih : ∀ t, t < l.length → nextR.l3 (n + 1) l (t : Int) (IntKind.i64.wrap (all + (rdEl TShare l k).2)) l l.length ((k + 1 : Nat) : Int) l (turnsOf l (bump l now k)) = nextEndR l (spin l n (k + 1) t (IntKind.i64.wrap (all + (rdEl TShare l k).2)) (bump l now k)) :=
      fun t ht => nextR_loop l hl n (k + 1) t _ _ (by omega) ht (by rw [hbl, hn])
    rw [spin]
    generalize bump l now k = b at *
    have hbt := turns_len l b (by omega)
    rw [rd_turns hk (by omega), rd_turns ht (by omega)]
    simp only
    rw [test_d (by omega), test_d (by omega), test_d (by omega), test_d (by omega), test_d (by omega), test_d (by omega), test_d (by omega), test_d (by omega), test_d (by omega), test_d (by omega), ih k (by omega), ih top ht]
    unfold ahead
    cases decide (rdEl (.int .i64) b k > rdEl (.int .i64) b top) with
    | true => rfl
    | false =>
      cases (rdEl (.int .i64) b k == rdEl (.int .i64) b top) with
      | false => rfl
      | true => cases decide ((rdEl TShare l k).1 < (rdEl TShare l top).1) <;> rfl

theorem ahead_self (l : List (Int × Int)) (now : List Int) (k : Nat) : ahead l now k k = false := by
  unfold ahead
  rw [dec_f (Int.lt_irrefl _), dec_f (Int.lt_irrefl _), Bool.and_false]; rfl

theorem nextR_first (l : List (El TShare)) (hl : l.length ≤ 64) (h1 : 1 ≤ l.length) (now : List Int) (hn : now.length = l.length) :
    nextR.l3 (l.length + 1) l (-1) 0 l l.length 0 l (turnsOf l now) = nextEndR l (spin l l.length 0 0 0 now) := by
  obtain ⟨n, hln⟩ : ∃ n, l.length = n + 1 := ⟨l.length - 1, by omega⟩
  have htl := turns_len l now hn
  have hk : 0 < l.length := by omega
  rw [hln, nextR.s3, cond_dt (by omega), test_d (by omega), test_d (by omega), test_d (by omega), test_d (by omega), test_d (by omega), test_d (by omega), cond_dt (by omega)]
  have e0 : Int.toNat 0 = 0 := rfl
  rw [e0, rd_turns hk (by omega)]
  simp only
  rw [turns_set hn hk, spin, ahead_self]
  have := nextR_loop l hl n 1 0 (IntKind.i64.wrap (0 + (rdEl TShare l 0).2)) (bump l now 0) (by omega) (by omega) (by rw [bump_len, hn])
  rw [hln] at this
  exact this

theorem zero_loop (l : List (El TShare)) (hl : l.length ≤ 64) (d : Nat) : ∀ (n k : Nat) (out : List (Int × Int)), l.length = k + n → out.length = k →
    nextR.l2 (n + 1 + d) l l l.length k l out = nextR.l3 d l (-1) 0 l l.length 0 l (out ++ (l.drop k).map fun s => (s.1, (0 : Int)))
  | 0, k, out, h, ho => by
    have hk : k = l.length := by omega
    subst hk
    rw [show 0 + 1 + d = d + 1 by omega, nextR.s2, cond_df (by omega), List.drop_length, List.map_nil, List.append_nil]
  | n + 1, k, out, h, ho => by
    rw [show n + 1 + 1 + d = (n + 1 + d) + 1 by omega, nextR.s2, cond_dt (by omega), test_d (by omega), test_d (by omega), test_d (by simp only [List.length_cons, List.length_nil, lim]; omega), w64s (by omega), toNat_cast,
      zero_loop l hl d n (k + 1) _ (by omega) (by simp [ho]), rdEl_drop (t := TShare) l (by omega : k < l.length), List.map_cons, List.append_assoc]
    rfl

theorem zeros_turns (l : List (Int × Int)) : (l.map fun s => (s.1, (0 : Int))) = turnsOf l (List.replicate l.length 0) := by
  induction l with
  | nil => rfl
  | cons a l ih =>
    rw [List.map_cons, ih, List.length_cons, List.replicate_succ]
    rfl

theorem eqSh_comm (a b : List (Int × Int)) : eqSh a b = eqSh b a := by
  rw [Bool.eq_iff_iff, eqSh_iff, eqSh_iff]
  exact eq_comm

theorem flag_loop (l row L : List (El TShare)) (hl : l.length ≤ 64) (d : Nat) : ∀ (n k : Nat) (b : Bool), l.length = k + n → (b = true → row.length = l.length) →
    nextR.l1 (n + 1 + d) l b l.length k row L = cond (!(b && eqSh (l.drop k) (row.drop k))) (nextR.l2 d l l l.length 0 l []) (nextR.l3 d l (-1) 0 l l.length 0 row L)
  | 0, k, b, h, hb => by
    have hk : k = l.length := by omega
    subst hk
    have hlim : ¬ ¬ l.length ≤ lim 16 := by simp only [lim]; omega
    rw [show 0 + 1 + d = d + 1 by omega, nextR.s1, cond_df (by omega), test_d (Classical.not_not.1 hlim), List.drop_length]
    cases b with
    | false => rfl
    | true =>
      have := hb rfl
      rw [← this, List.drop_length]
      rfl
  | n + 1, k, b, h, hb => by
    rw [show n + 1 + 1 + d = (n + 1 + d) + 1 by omega, nextR.s1, cond_dt (by omega)]
    cases b with
    | false =>
      rw [cond_false, w64s (by omega), flag_loop l row L hl d n (k + 1) false (by omega) (fun h => by cases h)]
      rfl
    | true =>
      have hrl := hb rfl
      rw [cond_true, test_d (by omega), test_d (by omega), test_d (by omega), test_d (by omega), w64s (by omega), toNat_cast, flag_loop l row L hl d n (k + 1) _ (by omega) (fun _ => hrl), rdEl_drop (t := TShare) l (by omega : k < l.length), rdEl_drop (t := TShare) row (by omega : k < row.length), eqSh, Bool.true_and]
      rfl

theorem wheelR_fits {w : El TWheelR} (h : fits TWheelR w = true) : w.1.length * 16 ≤ reachBytes ∧ w.2.length * 16 ≤ reachBytes := by
  obtain ⟨h1, h2⟩ := fits_prod h
  exact ⟨len_shs h1, len_shs h2⟩

theorem nextR_ok : nextR.OK := nextR.mk (mayRR_ok.cons' .nil) fun w l hx => by
  have h : (fits TWheelR w && (fits (.sl TShare) l && (decide (List.map Prod.fst w.1 = List.map Prod.fst w.2) && true))) = true := hx
  simp only [Bool.and_eq_true, decide_eq_true_eq] at h
  obtain ⟨hw, hl, hids, _⟩ := h
  have hres : nextR.res (w, l, ()) = .tup [vi .i64 (nextRI w l), vb (mayRow l)] := rfl
  have hback : nextR.back (w, l, ()) = objBx 0 31 TWheelR [none, some 42] (wheelRN w l) := rfl
  have hstart : ∀ m, mayRow l = true → nextR.go (m + 1) w l = nextR.l1 m l ((((l.length : Nat) : Int) == ((w.1.length : Nat) : Int))) l.length 0 w.1 w.2 := fun m hm => by
    rw [nextR.start, test_true (show mayRR.pre (l, ()) = true by simpa [mayRR.pre] using hl), hm]; rfl
  rw [hres, hback]
  unfold nextRI wheelRN
  cases hm : mayRow l with
  | false => exact ⟨1, by rw [nextR.start, test_true (show mayRR.pre (l, ()) = true by simpa [mayRR.pre] using hl), hm]; rfl⟩
  | true =>
    obtain ⟨r1, r2⟩ := row_in hm
    rw [cond_true, cond_true]
    have hF : ((((l.length : Nat) : Int) == ((w.1.length : Nat) : Int)) && eqSh l w.1) = eqSh w.1 l := by
      rw [eqSh_comm w.1 l]
      cases he : eqSh l w.1 with
      | false => rw [Bool.and_false]
      | true => rw [eqSh_iff.1 he, beq_self_eq_true]; rfl
    have hfl : ∀ d, nextR.l1 (l.length + 1 + d) l ((((l.length : Nat) : Int) == ((w.1.length : Nat) : Int))) l.length 0 w.1 w.2 = cond (!(eqSh w.1 l)) (nextR.l2 d l l l.length 0 l []) (nextR.l3 d l (-1) 0 l l.length 0 w.1 w.2) := fun d => by
      have := flag_loop l w.1 w.2 r2 d l.length 0 ((((l.length : Nat) : Int) == ((w.1.length : Nat) : Int))) (by omega) (fun hb => by
        have : ((l.length : Nat) : Int) = ((w.1.length : Nat) : Int) := by simpa using hb
        omega)
      rw [List.drop_zero, List.drop_zero, hF] at this
      exact this
    unfold idOf' nowOf spun startN
    cases he : eqSh w.1 l with
    | true =>
      have hwl := eqSh_iff.1 he
      have hL : w.2 = turnsOf l (nowsR w) := by rw [← hwl]; exact turns_back hids
      have hn : (nowsR w).length = l.length := by
        have := congrArg List.length hids
        simp only [List.length_map] at this
        unfold nowsR
        rw [List.length_map, ← this, hwl]
      refine ⟨(l.length + 1 + (l.length + 1)) + 1, ?_⟩
      rw [hstart _ hm, hfl, he, Bool.not_true, cond_false, cond_true, hL, hwl]
      have e : nowsR w = nowsR (l, turnsOf l (nowsR w)) := (nows_turns hn).symm
      exact nextR_first l r2 r1 _ hn
    | false =>
      refine ⟨(l.length + 1 + (l.length + 1 + (l.length + 1))) + 1, ?_⟩
      rw [hstart _ hm, hfl, he, Bool.not_false, cond_true, cond_false]
      have := zero_loop l r2 (l.length + 1) l.length 0 [] (by omega) rfl
      rw [List.drop_zero, List.nil_append, zeros_turns] at this
      exact this.trans (nextR_first l r2 r1 _ (by rw [List.length_replicate]))

theorem awake_ok : awake.OK := awake.mk .nil (new_ok.cons' (nextW_ok.cons' (turns_ok.cons' .nil))) fun _ _ => ⟨1, by kernel_rfl⟩

end Go.Proofs.Ytgocadoemofepaa
