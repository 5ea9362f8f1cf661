/-
  Probes: each function's contract.
-/
import Derived.Test.YtdigifchnecnkaaDoorCB
import Derived.Test.YtdigifchnecnkaaDoorXC
namespace Go.Proofs.YtdigifchnecnkaaDoor
open Go VE

theorem cfg_fit {c : El TConfig} (h : fits TConfig c = true) : (fits TConfig c && true) = true := by rw [h]; rfl

theorem known_ok : known.OK := known.mk (cMay_ok.cons' (cDef_ok.cons' .nil)) fun c hx => ⟨1, by
  have hres : known.res (c, ()) = mkIV true (enc TConfig (heldC c)) := rfl
  rw [known.start, test_true (b := cMay.pre _) hx, hres]
  unfold heldC
  cases mayC c <;> rfl⟩

theorem newP_ok : newP.OK := newP.mk .nil fun _ _ => ⟨1, by rw [newP.start]; rfl⟩

theorem well_ok : well.OK := well.mk .nil fun p hx => ⟨1, by
  have hres : well.res (p, ()) = vb (wellB p) := rfl
  rw [well.start, hres]
  unfold wellB
  cases p.2.2.1 == (2 : Int) <;> cases p.2.2.1 == (0 : Int) <;> rfl⟩

theorem moved_ok : moved.OK := moved.mk (well_ok.cons' .nil) fun a b hx => ⟨1, by
  have hres : moved.res (a, b, ()) = vi .i64 (movedI a b) := rfl
  rw [moved.start, hres]
  unfold movedI
  cases wellB a <;> cases wellB b <;> rfl⟩

theorem begin_ok : begin.OK := begin.mk .nil fun p i _ => ⟨1, by rw [begin.start]; rfl⟩

theorem m0_nonneg (p : El TQ) : 0 ≤ m0I p := by
  unfold m0I
  generalize p.2.1 = r
  have : ∀ r : Int, 0 ≤ (ite ((0 : Int) > r) (0 : Int) r) := fun r => by split <;> omega
  exact this r

theorem endP_ok : endP.OK := endP.mk (known_ok.cons' (moved_ok.cons' .nil)) fun c p ok hx => ⟨1, by
  have hc : fits TConfig c = true := (Bool.and_eq_true_iff.1 hx).1
  have hres : endP.res (c, p, ok, ()) = .tup [mkIV true (enc TQ (endQ c p ok)), vi .i64 (endM c p ok)] := rfl
  have e0 : (ite ((0 : Int) > p.2.1) (0 : Int) p.2.1) = m0I p := rfl
  have h0 := m0_nonneg p
  rw [endP.start, test_true (show known.pre (c, ()) = true from cfg_fit hc), hres, e0]
  unfold endM endQ
  cases ok == p.1 with
  | true => rfl
  | false =>
    by_cases hd : m0I p < 4611686018427387904
    · have er : m0I p + 1 = runI p := by unfold runI; rw [dec_t hd]; rfl
      rw [cond_dt hd, w64 (n := m0I p + 1) (by omega) (by omega), er]
      obtain ⟨up, run, fo, wt⟩ := p
      cases up
      · have hm : mostI c (false, run, fo, wt) = (((((heldC c)).2).2).2).1 := rfl
        rw [hm]
        cases decide (runI (false, run, fo, wt) ≥ (((((heldC c)).2).2).2).1) <;> rfl
      · have hm : mostI c (true, run, fo, wt) = ((((((heldC c)).2).2).2).2).1 := rfl
        rw [hm]
        cases decide (runI (true, run, fo, wt) ≥ ((((((heldC c)).2).2).2).2).1) <;> rfl
    · have er : runI p = m0I p := by unfold runI; rw [dec_f hd]; rfl
      rw [cond_df hd, ← er]
      obtain ⟨up, run, fo, wt⟩ := p
      cases up
      · have hm : mostI c (false, run, fo, wt) = (((((heldC c)).2).2).2).1 := rfl
        rw [hm]
        cases decide (runI (false, run, fo, wt) ≥ (((((heldC c)).2).2).2).1) <;> rfl
      · have hm : mostI c (true, run, fo, wt) = ((((((heldC c)).2).2).2).2).1 := rfl
        rw [hm]
        cases decide (runI (true, run, fo, wt) ≥ ((((((heldC c)).2).2).2).2).1) <;> rfl⟩

theorem force_ok : force.OK := force.mk (moved_ok.cons' .nil) fun p how hx => ⟨1, by
  have hres : force.res (p, how, ()) = .tup [mkIV true (enc TQ (forceQ p how)), vi .i64 (forceM p how)] := rfl
  rw [force.start, hres]
  unfold forceM forceQ forceOk
  cases decide (how < (0 : Int)) <;> cases decide (how > (2 : Int)) <;> rfl⟩

/-! ### bounds -/

theorem inR_iff (n : El TNum) : inR n = true ↔ n.2.2.1 ≤ n.2.1 ∧ n.2.1 ≤ n.2.2.2 := by
  unfold inR
  rw [Bool.and_eq_true, decide_eq_true_eq, decide_eq_true_eq]

theorem may_bounds {c : El TConfig} (h : mayC c = true) :
    ((10 : Int) ≤ cInterval c ∧ cInterval c ≤ 10000) ∧ ((0 : Int) ≤ cJitter c ∧ cJitter c ≤ 1000) ∧ ((1 : Int) ≤ cRise c ∧ cRise c ≤ 10) ∧ ((1 : Int) ≤ cFall c ∧ cFall c ≤ 10) := by
  have h1 : (firstL c ++ secondL c).all inR = true := (Bool.and_eq_true_iff.1 h).1
  have hm : ∀ n, n ∈ firstL c ++ secondL c → inR n = true := fun n hn => List.all_eq_true.1 h1 n hn
  have a0 := (inR_iff _).1 (hm ((⟨#[105, 110, 116, 101, 114, 118, 97, 108]⟩ : ByteArray), (c.1, ((10 : Int), (10000 : Int)))) (List.mem_append_left _ (.head _)))
  have a2 := (inR_iff _).1 (hm ((⟨#[106, 105, 116, 116, 101, 114]⟩ : ByteArray), (c.2.2.1, ((0 : Int), (1000 : Int)))) (List.mem_append_left _ (.tail _ (.tail _ (.head _)))))
  have a3 := (inR_iff _).1 (hm ((⟨#[114, 105, 115, 101]⟩ : ByteArray), (c.2.2.2.1, ((1 : Int), (10 : Int)))) (List.mem_append_left _ (.tail _ (.tail _ (.tail _ (.head _))))))
  have a4 := (inR_iff _).1 (hm ((⟨#[102, 97, 108, 108]⟩ : ByteArray), (c.2.2.2.2.1, ((1 : Int), (10 : Int)))) (List.mem_append_left _ (.tail _ (.tail _ (.tail _ (.tail _ (.head _)))))))
  exact ⟨a0, a2, a3, a4⟩

theorem may_def : mayC defC = true := by kernel_rfl
theorem held_def : heldC defC = defC := by unfold heldC; rw [may_def]; rfl
theorem held_may {c : El TConfig} (h : mayC c = true) : heldC c = c := by unfold heldC; rw [h]; rfl
theorem held_in (c : El TConfig) : mayC (heldC c) = true := by
  unfold heldC
  cases h : mayC c with
  | true => exact h
  | false => exact may_def

theorem below_in (h : Int) {n : Int} (hn : 1 ≤ n) : 0 ≤ belowN h n ∧ belowN h n < n := by
  unfold belowN
  rw [dec_f (by omega)]
  exact ⟨Int.emod_nonneg h (by omega), Int.emod_lt_of_pos h (by omega)⟩

theorem with_in (s : ByteArray) (n : Int) : 0 ≤ withN s n ∧ withN s n < 18446744073709551616 := by
  have := bv_lt (textB ((s ++ (⟨#[35]⟩ : ByteArray)) ++ itoaB n))
  unfold withN
  rw [textN_eq]
  omega

theorem wait_ok : wait.OK := wait.mk (known_ok.cons' (itoa_ok.cons' (with_ok.cons' (below_ok.cons' .nil)))) fun c ho i hx => ⟨1, by
  have h : (fits TConfig c && (true && (true && (decide (-9223372036854775808 ≤ ho ∧ ho ≤ 9223372036854775807 ∧ -9223372036854775808 ≤ i ∧ i ≤ 9223372036854775807) && true)))) = true := hx
  simp only [Bool.and_eq_true, decide_eq_true_eq] at h
  obtain ⟨hc, _, _, ⟨h0, h1, i0, i1⟩, _⟩ := h
  obtain ⟨⟨a0, a1⟩, ⟨j0, j1⟩, _⟩ := may_bounds (held_in c)
  have hs := itoa_size h0 h1
  have hR : reachBytes = 140737488351232 := rfl
  have hw := with_in (itoaB ho) i
  have hres : wait.res (c, ho, i, ()) = vi .i64 (waitI c ho i) := rfl
  have ej : IntKind.i64.wrap (((((heldC c)).2).2).1 + (1 : Int)) = cJitter (heldC c) + 1 := w64 (by show _ ≤ cJitter (heldC c) + 1; omega) (by show cJitter (heldC c) + 1 ≤ _; omega)
  have hb := below_in (withN (itoaB ho) i) (n := cJitter (heldC c) + 1) (by omega)
  rw [wait.start, ej, test_true (show known.pre (c, ()) = true from cfg_fit hc), test_true (show itoa.pre (ho, ()) = true by
    show (true && (decide (-9223372036854775808 ≤ ho ∧ ho ≤ 9223372036854775807) && true)) = true
    rw [dec_t ⟨h0, h1⟩]; rfl), test_true (show with.pre (itoaB ho, i, ()) = true by
    show (fits .str (itoaB ho) && (true && (decide ((itoaB ho).size ≤ 100000 ∧ -9223372036854775808 ≤ i ∧ i ≤ 9223372036854775807) && true))) = true
    rw [fits_str' (by omega), dec_t ⟨by omega, i0, i1⟩]; rfl), test_true (show below.pre (withN (itoaB ho) i, cJitter (heldC c) + 1, ()) = true by
    show (true && (true && (decide (0 ≤ withN (itoaB ho) i ∧ withN (itoaB ho) i < 18446744073709551616 ∧ cJitter (heldC c) + 1 ≤ 9223372036854775807) && true))) = true
    rw [dec_t ⟨hw.1, hw.2, by omega⟩]; rfl), hres]
  have ew : IntKind.i64.wrap (((heldC c)).1 + (belowN (withN (itoaB ho) i) (cJitter (heldC c) + 1))) = waitI c ho i := w64 (by show _ ≤ cInterval (heldC c) + _; omega) (by show cInterval (heldC c) + _ ≤ _; omega)
  rw [ew]
  rfl⟩

theorem awake_ok : awake.OK := awake.mk (cDef_ok.cons' (newP_ok.cons' (endP_ok.cons' (force_ok.cons' (well_ok.cons' (begin_ok.cons' (wait_ok.cons' .nil))))))) fun _ _ => ⟨1, by
  have hb := below_in (withN (itoaB 1) 1) (n := 1) (by omega)
  have e : waitI defC 1 1 = 100 := by
    unfold waitI
    rw [held_def]
    show (100 : Int) + belowN (withN (itoaB 1) 1) 1 = 100
    omega
  rw [awake.start, e]
  rfl⟩

end Go.Proofs.YtdigifchnecnkaaDoor
