/-
  Probes: plain facts.
-/
import Derived.Test.YtdigifchnecnkaaDoorPB
namespace Go.Proofs.YtdigifchnecnkaaDoor
open Go VE

/-- Who is well, by what is held and what it is forced to. -/
def wellU (u : Bool) (f : Int) : Bool := (f == (2 : Int)) || ((f == (0 : Int)) && u)
theorem well_u (p : El TQ) : wellB p = wellU p.1 p.2.2.1 := rfl

theorem moved_val (a b : El TQ) : movedI a b = if wellB a = wellB b then 0 else if wellB b = true then 1 else 2 := by
  unfold movedI
  cases wellB a <;> cases wellB b <;> rfl

theorem end_same {c : El TConfig} {p : El TQ} {ok : Bool} (h : ok = p.1) : endQ c p ok = (p.1, (0 : Int), p.2.2.1, (0 : Int)) ∧ endM c p ok = 0 := by
  have e : (ok == p.1) = true := by simp [h]
  unfold endM endQ
  rw [e]
  exact ⟨rfl, rfl⟩

theorem end_flip {c : El TConfig} {p : El TQ} {ok : Bool} (h : ok = !p.1) (hr : runI p ≥ mostI c p) :
    endQ c p ok = (!p.1, (0 : Int), p.2.2.1, (0 : Int)) ∧ endM c p ok = movedI p (!p.1, (0 : Int), p.2.2.1, (0 : Int)) := by
  have e : (ok == p.1) = false := by rw [h]; cases p.1 <;> rfl
  unfold endM endQ
  rw [e, dec_t hr]
  exact ⟨rfl, rfl⟩

theorem end_on {c : El TConfig} {p : El TQ} {ok : Bool} (h : ok = !p.1) (hr : ¬ runI p ≥ mostI c p) :
    endQ c p ok = (p.1, runI p, p.2.2.1, (0 : Int)) ∧ endM c p ok = movedI p (p.1, runI p, p.2.2.1, (0 : Int)) := by
  have e : (ok == p.1) = false := by rw [h]; cases p.1 <;> rfl
  unfold endM endQ
  rw [e, dec_f hr]
  exact ⟨rfl, rfl⟩

theorem run_ge (p : El TQ) {i : Int} (h : i ≤ m0I p) (hi : i < 1000) : i + 1 ≤ runI p := by
  unfold runI
  by_cases hd : m0I p < 4611686018427387904
  · rw [dec_t hd]
    show i + 1 ≤ m0I p + 1
    omega
  · rw [dec_f hd]
    show i + 1 ≤ m0I p
    omega

theorem run_pos (p : El TQ) : 0 ≤ runI p := by
  have := m0_nonneg p
  have := run_ge p (i := 0) this (by omega)
  omega

theorem m0_at (u : Bool) (f w : Int) {r : Int} (h : 0 ≤ r) : m0I (u, r, f, w) = r := by
  show (ite ((0 : Int) > r) (0 : Int) r) = r
  rw [if_neg (by omega)]

theorem bool_ne {a b : Bool} (h : ¬ a = b) : a = !b := by revert h; cases a <;> cases b <;> decide

theorem end_pre {c : El TConfig} (hc : fits TConfig c = true) (p : El TQ) (b : Bool) : endP.pre (c, p, b, ()) = true := by
  show (fits TConfig c && (fits TQ p && (fits .bool b && true))) = true
  rw [hc]; rfl

end Go.Proofs.YtdigifchnecnkaaDoor
