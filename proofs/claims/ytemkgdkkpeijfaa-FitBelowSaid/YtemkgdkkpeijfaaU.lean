/-
  What is of small bulk weighs little.
-/
import Derived.Test.YtemkgdkkpeijfaaVW
import Derived.Test.YtemkgdkkpeijfaaRows
import Derived.Test.YtemkgdkkpeijfaaChecked
namespace Go.Proofs.Ytemkgdkkpeijfaa
open Go VE

noncomputable def tsz : Nat := Try.prog.types.size
theorem bytes_small {e : Nat} (he : e < tsz) : Try.prog.bytesOf e ≤ 4096 := by
  have h : (List.range tsz).all (fun e => Nat.ble (Try.prog.bytesOf e) 4096) = true := by kernel_rfl
  exact Nat.le_of_ble_eq_true (List.all_eq_true.1 h e (List.mem_range.2 he))

def inner : TypeDesc → List Nat
  | .slice e => [e]
  | .pointer e => [e]
  | .array _ e => [e]
  | .map k e => [k, e]
  | .struct fs => fs.toList.map (·.type)
  | _ => []
theorem inner_small {t e : Nat} {d : TypeDesc} (ht : t < tsz) (hd : Try.prog.underlying t = some d) (he : e ∈ inner d) : e < tsz := by
  have h : (List.range tsz).all (fun t => match Try.prog.underlying t with | some d => (inner d).all (fun e => Nat.blt e tsz) | none => true) = true := by kernel_rfl
  have h1 := List.all_eq_true.1 h t (List.mem_range.2 ht)
  rw [hd] at h1
  exact Nat.le_of_ble_eq_true (List.all_eq_true.1 h1 e he)

section
variable {H : Type}

theorem add_le {a b K : Nat} {n : Nat} (h : n ≤ a * K) : n ≤ (a + b) * K := Nat.le_trans h (Nat.mul_le_mul_right _ (by omega))
theorem add_le' {a b K : Nat} {n : Nat} (h : n ≤ b * K) : n ≤ (a + b) * K := Nat.le_trans h (Nat.mul_le_mul_right _ (by omega))

theorem bulkAll_length : ∀ (l : List (DataW H)), l.length ≤ Rows.uptoBulkAll l
  | [] => Nat.zero_le _
  | d :: l => by
    have h := bulkAll_length l
    have h1 : 1 ≤ Rows.uptoBulk d := by
      cases d with
      | lit x => cases x <;> simp [Rows.uptoBulk]
      | _ => simp [Rows.uptoBulk]
    simp only [Rows.uptoBulkAll, List.length_cons]
    omega
theorem bulkEnt_length : ∀ (l : List (Lit × DataW H)), l.length ≤ Rows.uptoBulkEntries l
  | [] => Nat.zero_le _
  | x :: l => by
    have h := bulkEnt_length l
    have h1 : 1 ≤ Rows.uptoBulkEntry x := by
      obtain ⟨a, d⟩ := x
      cases a <;> simp [Rows.uptoBulkEntry]
    simp only [Rows.uptoBulkEntries, List.length_cons]
    omega

mutual
theorem bulk_w : ∀ (d : DataW H) (t n : Nat), t < tsz → n ∈ DataW.weights Try.prog t d → n ≤ Rows.uptoBulk d * 8192
  | .lit x, t, n, ht, h => by
    cases x <;> simp [DataW.weights] at h
    subst h
    simp only [Rows.uptoBulk]
    omega
  | .nil, t, n, ht, h => by simp [DataW.weights] at h
  | .ptr d, t, n, ht, h => by
    simp only [DataW.weights] at h
    split at h
    · rename_i e hu
      exact add_le (bulk_w d _ n (inner_small ht hu (by simp [inner])) h)
    · simp at h
  | .slice elems spare, t, n, ht, h => by
    simp only [DataW.weights] at h
    split at h
    · rename_i e hu
      have he : e < tsz := inner_small ht hu (by simp [inner])
      simp only [List.mem_cons, List.mem_append] at h
      simp only [Rows.uptoBulk]
      rcases h with rfl | h | h
      · have h1 := bulkAll_length elems
        have h2 := bulkAll_length spare
        have h3 := bytes_small he
        exact Nat.mul_le_mul (by omega) (by omega)
      · exact add_le (add_le (bulk_all elems _ n he h))
      · exact add_le (add_le' (bulk_all spare _ n he h))
    · simp at h
  | .agg parts, t, n, ht, h => by
    simp only [DataW.weights] at h
    split at h
    · rename_i fs hu
      exact add_le (bulk_each parts _ n (fun e he => inner_small ht hu he) h)
    · rename_i m e hu
      exact add_le (bulk_all parts _ n (inner_small ht hu (by simp [inner])) h)
    · simp at h
  | .iface u d, t, n, ht, h => by simp [DataW.weights] at h
  | .map entries, t, n, ht, h => by
    simp only [DataW.weights] at h
    split at h
    · rename_i kt e hu
      have hk : kt < tsz := inner_small ht hu (by simp [inner])
      have he : e < tsz := inner_small ht hu (by simp [inner])
      simp only [List.mem_cons] at h
      simp only [Rows.uptoBulk]
      rcases h with rfl | h
      · have h1 := bulkEnt_length entries
        have h2 := bytes_small hk
        have h3 := bytes_small he
        exact Nat.mul_le_mul (by omega) (by omega)
      · exact add_le (bulk_ents entries _ n he h)
    · simp at h
  | .held _, t, n, ht, h => by simp [DataW.weights] at h
theorem bulk_all : ∀ (l : List (DataW H)) (e n : Nat), e < tsz → n ∈ DataW.weightsAll Try.prog e l → n ≤ Rows.uptoBulkAll l * 8192
  | [], e, n, he, h => by simp [DataW.weightsAll] at h
  | d :: l, e, n, he, h => by
    simp only [DataW.weightsAll, List.mem_append] at h
    simp only [Rows.uptoBulkAll]
    exact h.elim (fun h => add_le (bulk_w d e n he h)) fun h => add_le' (bulk_all l e n he h)
theorem bulk_each : ∀ (l : List (DataW H)) (ts : List Nat) (n : Nat), (∀ e, e ∈ ts → e < tsz) → n ∈ DataW.weightsEach Try.prog ts l → n ≤ Rows.uptoBulkAll l * 8192
  | [], ts, n, hts, h => by cases ts <;> simp [DataW.weightsEach] at h
  | d :: l, [], n, hts, h => by simp [DataW.weightsEach] at h
  | d :: l, t :: ts, n, hts, h => by
    simp only [DataW.weightsEach, List.mem_append] at h
    simp only [Rows.uptoBulkAll]
    exact h.elim (fun h => add_le (bulk_w d t n (hts t (List.mem_cons_self ..)) h)) fun h => add_le' (bulk_each l ts n (fun e he => hts e (List.mem_cons_of_mem _ he)) h)
theorem bulk_ents : ∀ (l : List (Lit × DataW H)) (e n : Nat), e < tsz → n ∈ DataW.weightsEntries Try.prog e l → n ≤ Rows.uptoBulkEntries l * 8192
  | [], e, n, he, h => by simp [DataW.weightsEntries] at h
  | x :: l, e, n, he, h => by
    simp only [DataW.weightsEntries, List.mem_append] at h
    simp only [Rows.uptoBulkEntries]
    exact h.elim (fun h => add_le (bulk_ent x e n he h)) fun h => add_le' (bulk_ents l e n he h)
theorem bulk_ent : ∀ (x : Lit × DataW H) (e n : Nat), e < tsz → n ∈ DataW.weightsEntry Try.prog e x → n ≤ Rows.uptoBulkEntry x * 8192
  | (a, d), e, n, he, h => by
    cases a with
    | string b =>
      simp only [DataW.weightsEntry, List.mem_cons] at h
      simp only [Rows.uptoBulkEntry]
      rcases h with h | h
      · exact Nat.le_trans (h ▸ Nat.le_succ_of_le (Nat.le_add_right _ _)) (Nat.le_mul_of_pos_right _ (by decide))
      · exact Nat.le_trans (bulk_w d e n he h) (Nat.mul_le_mul_right _ (Nat.le_succ_of_le (Nat.le_add_left _ _)))
    | _ =>
      simp only [DataW.weightsEntry] at h
      simp only [Rows.uptoBulkEntry]
      exact Nat.le_trans (bulk_w d e n he h) (Nat.mul_le_mul_right _ (Nat.le_succ _))
end

/-- What a small reading weighs at most. -/
theorem small_w (ds : List (DataW H)) (h : Rows.uptoSmall H ds = true) (ts : List Nat) (hts : ts.all (fun e => Nat.blt e tsz) = true) (n : Nat) (hn : n ∈ DataW.weightsEach Try.prog ts ds) : n ≤ 8589934592 := by
  have h1 : Rows.uptoBulkAll ds ≤ 1048576 := by
    simp only [Rows.uptoSmall, decide_eq_true_eq] at h
    exact h
  have h2 := bulk_each ds ts n (fun e he => Nat.le_of_ble_eq_true (List.all_eq_true.1 hts e he)) hn
  omega

end
end Go.Proofs.Ytemkgdkkpeijfaa
